import Derived.Test.YtiiolpchefldlaaNd
import Derived.Test.YtiiolpchefldlaaOpen
namespace Go.Proofs.Ytiiolpchefldlaa.deltaArg
open Go.RowKit Go.ChangeShapes Go.WideShapes Go.Deep Go.ChangeAt

/-! ### Bytes that came in -/
theorem cells5 : Try.prog.cellsOf 5 = 1 := by kernel_rfl
theorem bytes5 : Try.prog.bytesOf 5 = 1 := by kernel_rfl
section
variable {H : Type} {enc : TypeId × Value → H} {w : World} {base : Nat} {held : Bool}
theorem open_sl {fuel : Nat} {a : Option Addr} {len cap : Nat} {d : DataW H} {p : List MemPlace} (h : DataW.trod enc Try.prog w base (fun _ => true) held fuel 22 (Value.slice a len cap).cells.toList = some (d, p)) :
    ∃ b : List UInt8, b.length = len ∧ Sl w a b cap ∧ ((a = none ∧ cap = 0) ∨ ∃ elems spare, d = .slice elems spare ∧ elems.length + spare.length = cap) := by
  obtain ⟨zs, hz, hd⟩ := open_nums Try.underlying22 Try.underlying5 cells5 h
  obtain ⟨b, hbl, hbr⟩ := hz.bytes
  have h1 := hz.2.1
  have h2 := hz.2.2.1
  unfold maxLen at h2
  subst hbl
  exact ⟨b, rfl, ⟨hbr, h1, h2, hz.2.2.2.1⟩, hd⟩
end
end Go.Proofs.Ytiiolpchefldlaa.deltaArg
