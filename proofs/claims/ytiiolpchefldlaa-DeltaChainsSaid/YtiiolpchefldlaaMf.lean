import Derived.Test.YtiiolpchefldlaaDn
import Derived.Test.YtiiolpchefldlaaPm
import Derived.Test.YtiiolpchefldlaaIx
namespace Go.Proofs.Ytiiolpchefldlaa
open Go.RowKit

/-! ### Make -/
theorem sizes_three (n m : Nat) (r : List UInt8) (hn : n < 2147483648) (hm : m < 2147483648) : sizesS (numS n ++ numS m ++ r) = (n, m, r, 0) := by
  have h1 := numDS_numS n (numS m ++ r) hn
  have h2 := numDS_numS m r hm
  unfold sizesS
  rw [List.append_assoc, h1]
  dsimp only
  rw [h2]
  simp
theorem applyS_makes {base target code : List UInt8} {bound : Nat} (h : Makes base code target) (hb : base.length < 2147483648) (ht : target.length < 2147483648) (hl : target.length ≤ bound) :
    applyS base (numS base.length ++ numS target.length ++ code) bound = (target, 0) := by
  have h1 := h target.length [] [] (by simp)
  rw [List.append_nil, List.nil_append] at h1
  unfold applyS
  rw [sizes_three _ _ _ hb ht]
  dsimp only
  rw [if_neg (by simp), if_neg (by simp), if_neg (by omega), h1, List.length_nil, runD, if_neg (by omega)]
theorem Got.sl {b : List UInt8} {w w' : World} {A : Option Addr} (h : Got b w A w') (hc : b.length ≤ 9223372036854775807) : Sl w' A b b.length := by
  refine ⟨h.1.reads.weak (fun _ _ => trivial), Nat.le_refl _, hc, fun hA => ?_⟩
  rcases b with _ | ⟨x, t⟩
  · rfl
  · obtain ⟨g, cur, hg, _⟩ := h.1.2 (by simp)
    rw [hA] at hg
    cases hg
/-- What Make hands back: the two sizes, and instructions that make the target, of no more than L bytes. -/
def MakeO (base target : List UInt8) (L : Nat) (w : World) (e : Ending) (w' : World) : Prop := ∃ A code, Makes base code target ∧ code.length ≤ L ∧
  e = .returned (.slice A (numS base.length ++ numS target.length ++ code).length (numS base.length ++ numS target.length ++ code).length) ∧ Got (numS base.length ++ numS target.length ++ code) w A w'
set_option maxHeartbeats 3200000 in
set_option maxRecDepth 100000 in
theorem make_found_o {As At : Option Addr} {cs ct : Nat} {base target : List UInt8} {w : World} {m : Int} (hb : Sl w As base cs) (ht : Sl w At target ct) (hs : base.length ≤ 1073741824) (hts : target.length ≤ 1073741824)
    (hm : w.cell? ⟨0, 0, none⟩ = some (.int .i64 m)) (hi : 0 ≤ Lib.index base target) :
    Calls Try.prog 9 #[.slice As base.length cs, .slice At target.length ct] w (MakeO base target (8 * (target.length / 65536) + 7) w) := by
  obtain ⟨i0, hi0, hz0, hz1, hz2⟩ := info_parts Try.info5
  obtain ⟨i, hidx⟩ : ∃ i : Nat, Lib.index base target = (i : Int) := ⟨(Lib.index base target).toNat, by omega⟩
  obtain ⟨hr1, hr2⟩ := index_some hidx
  have HI := Lib.hid (fun (w9 : World) (hf : Fresh w w9) => index_o (hb.fresh hf) (ht.fresh hf) (by omega) ((hf.cell (World.block_lt_of_cell? w _ hm) (fun h => h)).trans hm))
  rw [hidx] at HI
  have HMk := Lib.hid (show Makes base (copyS i target.length) target by
    have := makes_copyS (base := base) (by omega) hr1
    rwa [hr2] at this)
  have hcl := copyS_len i target.length
  have hl1 := numS_pos base.length
  have hl2 := numS_pos target.length
  have hl3 := numS_len base.length
  have hl4 := numS_len target.length
  unfold MakeO
  have hbl := Lib.hid (number_o (base.length : Int) w (by omega) (by omega))
  have htl := Lib.hid (fun w1 => number_o (target.length : Int) w1 (by omega) (by omega))
  unfold NumO at hbl htl
  simp only [Int.toNat_natCast] at hbl htl
  generalize numS base.length = p at *
  generalize numS target.length = q at *
  clear hm hi hb ht hr2 hidx
  go_enter Try.func9, Try.ntmps9
  go_wp2_with fail
  refine hbl.out.mono ?_
  rintro e w1 ⟨A1, rfl, G1⟩
  replace G1 := Lib.hid G1
  go_wp2_with fail
  refine (htl.out w1).mono ?_
  rintro e w2 ⟨A2, rfl, G2⟩
  have F2 := Lib.hid (G1.out.2.2.trans G2.2.2 (fun _ _ h => h))
  have R1 := Lib.hid (G1.out.1.upd G2.2.2 (fun _ _ h => h))
  replace G2 := Lib.hid G2
  obtain ⟨a1, hA1, -⟩ := R1.out.reads.2 (by omega)
  obtain ⟨a2, hA2, -⟩ := G2.out.1.reads.2 (by omega)
  subst hA1 hA2
  have e1 : (bv p).length = p.length * 1 := by simp [bv]
  have e2 : (bv q).length = q.length * 1 := by simp [bv]
  go_upto_region 2 with (first
    | (at_builtin
       refine wpList_append_grows _ rfl (.tmp 17) (.tmp 20) 22 rfl 5 i0 _ 1 1 Try.underlying22 hi0 hz0 hz1 hz2 rfl (by omega) (some a1) p.length p.length (bv p) rfl (fun h => by cases h) e1 (fun b hb => by injection hb with hb; subst hb; exact R1.out.cells1) a2 q.length q.length (bv q) rfl e2 G2.out.1.cells1 (bv_one _) (by omega) (by unfold maxLen; omega) (by omega) ?_
       intro v3 w3 hown3 hg3
       obtain ⟨A3, c3, rfl, HO⟩ := Own.grows F2.out hown3 hg3 (by rw [List.length_append])
       replace HO := Lib.hid HO
       clear hown3 hg3))
  rw [← List.length_append]
  have hol : (p ++ q).length ≤ 20 := by rw [List.length_append]; omega
  clear G1 R1 G2 F2 e1 e2 hl1 hl2 hl3 hl4
  generalize hpq : p ++ q = o at HO hol ⊢
  replace hpq := Lib.hid hpq
  have HM := Lib.hid (show Mkr w (w3.alloc (.cells #[.slice A3 o.length c3, .slice none 0 0] 44)) (w3.alloc (.cells #[.slice A3 o.length c3, .slice none 0 0] 44)) w3.heap.size A3 c3 o none 0 [] from
    ⟨Blk.new w3 44 _, HO.out.fresh ((Upd.refl w3).alloc _), Wt.nil _ _, HO.out.fr.size, fun h => absurd h (by omega), KeepO.refl _⟩)
  generalize w3.alloc (.cells #[.slice A3 o.length c3, .slice none 0 0] 44) = w4 at HM ⊢
  generalize w3.heap.size = g at HM ⊢
  clear HO
  go_wp2_with fail
  refine (HI.out w4 HM.out.own.fr).mono ?_
  rintro e w5 ⟨rfl, F5⟩
  replace HM := Lib.hid (HM.out.fresh F5)
  clear F5 HI
  go_wp2_with fail
  have HCp := Lib.hid (copy_o HM.out (at_ := i) (n := target.length) (by simp; omega) (by omega))
  rw [flushS_nil, List.append_nil] at HCp
  refine HCp.out.mono ?_
  rintro e w6 ⟨rfl, A6, c6, Aw6, cw6, M6⟩
  have hcp := owns_cap M6.own.own
  unfold maxLen at hcp
  have c0 := M6.blk.cell 0
  simp only [List.getElem?_toArray, List.getElem?_cons_zero, List.getElem?_cons_succ] at c0
  replace M6 := Lib.hid M6
  clear HCp HM
  generalize hcode : copyS i target.length = code at *
  generalize hres : o ++ code = r at *
  go_upto_region 5 with fail
  go_quiet (fail)
  go_wp2_with fail
  go_ret
  exact ⟨A6, code, HMk.out, hcl, by rw [hpq.out, hres]; rfl, by rw [hpq.out, hres]; exact (M6.out.own.fresh (fresh_drewN _ _)).got⟩
end Go.Proofs.Ytiiolpchefldlaa
