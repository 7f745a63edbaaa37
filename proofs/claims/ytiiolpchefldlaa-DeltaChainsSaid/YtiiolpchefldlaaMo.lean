import Derived.Test.YtiiolpchefldlaaMg
namespace Go.Proofs.Ytiiolpchefldlaa
open Go.RowKit

/-- Make, for any base and target of at most 1,073,741,824 bytes. -/
theorem make_o {As At : Option Addr} {cs ct : Nat} {base target : List UInt8} {w : World} {m : Int} (hb : Sl w As base cs) (ht : Sl w At target ct) (hs : base.length ≤ 1073741824) (hts : target.length ≤ 1073741824)
    (hm : w.cell? ⟨0, 0, none⟩ = some (.int .i64 m)) :
    Calls Try.prog 9 #[.slice As base.length cs, .slice At target.length ct] w (MakeO base target (target.length + target.length / 127 + 8) w) := by
  by_cases hi : 0 ≤ Lib.index base target
  · refine (make_found_o hb ht hs hts hm hi).mono ?_
    rintro e w' ⟨A, code, h1, h2, h3⟩
    exact ⟨A, code, h1, by omega, h3⟩
  · exact make_other_o hb ht hs hts hm (by omega)
end Go.Proofs.Ytiiolpchefldlaa
