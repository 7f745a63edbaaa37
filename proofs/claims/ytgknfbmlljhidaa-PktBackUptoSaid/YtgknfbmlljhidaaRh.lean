import Derived.Test.YtgknfbmlljhidaaRf
namespace Go.Proofs.Ytgknfbmlljhidaa
open Go.RowKit

/-! ### The document's hex -/
def StrO (b : List UInt8) (w : World) (e : Ending) (w' : World) : Prop := e = .returned (.string ⟨b.toArray⟩) ∧ Fresh w w'
set_option maxHeartbeats 1600000 in
theorem hex_o (N : Nat) (hN2 : N < 65536) (w : World) : Calls Try.prog 25 #[.int .i64 N] w (StrO (hex4 N) w) := by
  obtain ⟨i0, hi0, hz0, hz1, hz2⟩ := info_parts Try.info5
  go_enter Try.func25, Try.ntmps25
  go_upto_region 2 with fail
  obtain ⟨d1, f1, m0, k1⟩ : ∃ d1 : Nat, d1 < 16 ∧ bits .and .i64 ((N : Int) / 4096) 15 = (d1 : Int) ∧ Hid (d1 = N / 4096 % 16) := ⟨N / 4096 % 16, by omega, mask15 _ _ (by omega), rfl⟩
  obtain ⟨d2, f2, m1, k2⟩ : ∃ d1 : Nat, d1 < 16 ∧ bits .and .i64 ((N : Int) / 256) 15 = (d1 : Int) ∧ Hid (d1 = N / 256 % 16) := ⟨N / 256 % 16, by omega, mask15 _ _ (by omega), rfl⟩
  obtain ⟨d3, f3, m2, k3⟩ : ∃ d1 : Nat, d1 < 16 ∧ bits .and .i64 ((N : Int) / 16) 15 = (d1 : Int) ∧ Hid (d1 = N / 16 % 16) := ⟨N / 16 % 16, by omega, mask15 _ _ (by omega), rfl⟩
  obtain ⟨d4, f4, m3, k4⟩ : ∃ d1 : Nat, d1 < 16 ∧ bits .and .i64 (N : Int) 15 = (d1 : Int) ∧ Hid (d1 = N % 16) := ⟨N % 16, by omega, mask15 _ _ (by omega), rfl⟩
  have g1 : (d1 : Int) < 16 := by omega
  have g2 : (d2 : Int) < 16 := by omega
  have g3 : (d3 : Int) < 16 := by omega
  have g4 : (d4 : Int) < 16 := by omega
  have n1 := dig_at d1 f1
  have n2 := dig_at d2 f2
  have n3 := dig_at d3 f3
  have n4 := dig_at d4 f4
  have HX := Lib.hid (show [dgt d1, dgt d2, dgt d3, dgt d4] = hex4 N by rw [k1.out, k2.out, k3.out, k4.out]; rfl)
  generalize dgt d1 = y1 at n1 HX
  generalize dgt d2 = y2 at n2 HX
  generalize dgt d3 = y3 at n3 HX
  generalize dgt d4 = y4 at n4 HX
  have cv : (convert 23 9 (.slice (some ⟨w.heap.size, 0, none⟩) 4 4)).run Try.prog ((w.alloc (.cells #[.int .u8 y1.toNat, .int .u8 y2.toNat, .int .u8 y3.toNat, .int .u8 y4.toNat] 5)).drew) = .ok (.string ⟨[y1, y2, y3, y4].toArray⟩) ((w.alloc (.cells #[.int .u8 y1.toNat, .int .u8 y2.toNat, .int .u8 y3.toNat, .int .u8 y4.toNat] 5)).drew) :=
    conv_of (l := [y1, y2, y3, y4]) (c := 4) (Reads.drew (reads_cells w [y1, y2, y3, y4] _ rfl 4 rfl))
  refine wp_region_any (by kernel_rfl) ?_
  change wpAny _ _ _ _ _ _ _ (World.drew _)
  refine wpAny_take (i := 0) (v := ?_) rfl (by kernel_rfl) (by kernel_rfl) (by kernel_rfl) (fun _ _ _ h => h) (Or.inl ⟨by rfl, ?_⟩) ?_
  case refine_2 => (intro w9; go_simp; try with_reducible rfl)
  try simp only [Act.put, List.setIfInBounds_toArray, List.set_cons_zero, List.set_cons_succ]
  refine wpAny_take (i := 1) (v := ?_) rfl (by kernel_rfl) (by kernel_rfl) (by kernel_rfl) (fun _ _ _ h => h) (Or.inl ⟨by rfl, ?_⟩) ?_
  case refine_2 => (intro w9; go_simp; try with_reducible rfl)
  try simp only [Act.put, List.setIfInBounds_toArray, List.set_cons_zero, List.set_cons_succ]
  refine wpAny_take (i := 2) (v := ?_) rfl (by kernel_rfl) (by kernel_rfl) (by kernel_rfl) (fun _ _ _ h => h) (Or.inl ⟨by rfl, ?_⟩) ?_
  case refine_2 => (intro w9; go_simp; try with_reducible rfl)
  try simp only [Act.put, List.setIfInBounds_toArray, List.set_cons_zero, List.set_cons_succ]
  refine wpAny_take (i := 3) (v := ?_) rfl (by kernel_rfl) (by kernel_rfl) (by kernel_rfl) (fun _ _ _ h => h) (Or.inl ⟨by rfl, ?_⟩) ?_
  case refine_2 => (intro w9; go_simp; try with_reducible rfl)
  try simp only [Act.put, List.setIfInBounds_toArray, List.set_cons_zero, List.set_cons_succ]
  refine wpAny_take (i := 4) (v := ?_) rfl (by kernel_rfl) (by kernel_rfl) (by kernel_rfl) (fun _ _ _ h => h) (Or.inl ⟨by rfl, ?_⟩) ?_
  case refine_2 => (intro w9; go_simp; try with_reducible rfl)
  try simp only [Act.put, List.setIfInBounds_toArray, List.set_cons_zero, List.set_cons_succ]
  refine wpAny_take (i := 5) (v := ?_) rfl (by kernel_rfl) (by kernel_rfl) (by kernel_rfl) (fun _ _ _ h => h) (Or.inl ⟨by rfl, ?_⟩) ?_
  case refine_2 => (intro w9; go_simp; try with_reducible rfl)
  try simp only [Act.put, List.setIfInBounds_toArray, List.set_cons_zero, List.set_cons_succ]
  refine wpAny_take (i := 6) (v := ?_) rfl (by kernel_rfl) (by kernel_rfl) (by kernel_rfl) (fun _ _ _ h => h) (Or.inl ⟨by rfl, ?_⟩) ?_
  case refine_2 => (intro w9; go_simp; try with_reducible rfl)
  try simp only [Act.put, List.setIfInBounds_toArray, List.set_cons_zero, List.set_cons_succ]
  refine wpAny_take (i := 7) (v := ?_) rfl (by kernel_rfl) (by kernel_rfl) (by kernel_rfl) (fun _ _ _ h => h) (Or.inl ⟨by rfl, ?_⟩) ?_
  case refine_2 => (intro w9; go_simp; try with_reducible rfl)
  try simp only [Act.put, List.setIfInBounds_toArray, List.set_cons_zero, List.set_cons_succ]
  refine wpAny_take (i := 8) (v := ?_) rfl (by kernel_rfl) (by kernel_rfl) (by kernel_rfl) (fun _ _ _ h => h) (Or.inl ⟨by rfl, ?_⟩) ?_
  case refine_2 => (intro w9; go_simp; try with_reducible rfl)
  try simp only [Act.put, List.setIfInBounds_toArray, List.set_cons_zero, List.set_cons_succ]
  refine wpAny_take (i := 9) (v := ?_) rfl (by kernel_rfl) (by kernel_rfl) (by kernel_rfl) (fun _ _ _ h => h) (Or.inl ⟨by rfl, ?_⟩) ?_
  case refine_2 => (intro w9; go_simp; try with_reducible rfl)
  try simp only [Act.put, List.setIfInBounds_toArray, List.set_cons_zero, List.set_cons_succ]
  refine wpAny_take (i := 10) (v := ?_) rfl (by kernel_rfl) (by kernel_rfl) (by kernel_rfl) (fun _ _ _ h => h) (Or.inl ⟨by rfl, ?_⟩) ?_
  case refine_2 => (intro w9; go_simp; try with_reducible rfl)
  try simp only [Act.put, List.setIfInBounds_toArray, List.set_cons_zero, List.set_cons_succ]
  refine wpAny_take (i := 11) (v := ?_) rfl (by kernel_rfl) (by kernel_rfl) (by kernel_rfl) (fun _ _ _ h => h) (Or.inl ⟨by rfl, ?_⟩) ?_
  case refine_2 => (intro w9; go_simp; try with_reducible rfl)
  try simp only [Act.put, List.setIfInBounds_toArray, List.set_cons_zero, List.set_cons_succ]
  refine wpAny_take (i := 12) (v := ?_) rfl (by kernel_rfl) (by kernel_rfl) (by kernel_rfl) (fun _ _ _ h => h) (Or.inl ⟨by rfl, ?_⟩) ?_
  case refine_2 => (intro w9; go_simp; try with_reducible rfl)
  try simp only [Act.put, List.setIfInBounds_toArray, List.set_cons_zero, List.set_cons_succ]
  refine wpAny_take (i := 13) (v := ?_) rfl (by kernel_rfl) (by kernel_rfl) (by kernel_rfl) (fun _ _ _ h => h) (Or.inl ⟨by rfl, ?_⟩) ?_
  case refine_2 => (intro w9; go_simp; try with_reducible rfl)
  try simp only [Act.put, List.setIfInBounds_toArray, List.set_cons_zero, List.set_cons_succ]
  refine wpAny_take (i := 14) (v := ?_) rfl (by kernel_rfl) (by kernel_rfl) (by kernel_rfl) (fun _ _ _ h => h) (Or.inl ⟨by rfl, ?_⟩) ?_
  case refine_2 => (intro w9; go_simp; try with_reducible rfl)
  try simp only [Act.put, List.setIfInBounds_toArray, List.set_cons_zero, List.set_cons_succ]
  refine wpAny_take (i := 15) (v := ?_) rfl (by kernel_rfl) (by kernel_rfl) (by kernel_rfl) (fun _ _ _ h => h) (Or.inl ⟨by rfl, ?_⟩) ?_
  case refine_2 => (intro w9; go_simp; try with_reducible rfl)
  try simp only [Act.put, List.setIfInBounds_toArray, List.set_cons_zero, List.set_cons_succ]
  refine wpAny_take (i := 16) (v := ?_) rfl (by kernel_rfl) (by kernel_rfl) (by kernel_rfl) (fun _ _ _ h => h) (Or.inl ⟨by rfl, ?_⟩) ?_
  case refine_2 => (intro w9; go_simp; try with_reducible rfl)
  try simp only [Act.put, List.setIfInBounds_toArray, List.set_cons_zero, List.set_cons_succ]
  refine wpAny_take (i := 17) (v := ?_) rfl (by kernel_rfl) (by kernel_rfl) (by kernel_rfl) (fun _ _ _ h => h) (Or.inl ⟨by rfl, ?_⟩) ?_
  case refine_2 => (intro w9; go_simp; try with_reducible rfl)
  try simp only [Act.put, List.setIfInBounds_toArray, List.set_cons_zero, List.set_cons_succ]
  refine wpAny_take (i := 18) (v := ?_) rfl (by kernel_rfl) (by kernel_rfl) (by kernel_rfl) (fun _ _ _ h => h) (Or.inl ⟨by rfl, ?_⟩) ?_
  case refine_2 => (intro w9; go_simp; try with_reducible rfl)
  try simp only [Act.put, List.setIfInBounds_toArray, List.set_cons_zero, List.set_cons_succ]
  refine wpAny_ready (rs := [19]) (by kernel_rfl) (by simp) ?_
  refine AllReady.cons rfl (fun K hK => ?_) AllReady.nil
  go_simp
  refine hK _ _ ?_
  clear hK K
  refine wpAny_ready (rs := [20]) (by kernel_rfl) (by simp) ?_
  refine AllReady.cons rfl (fun K hK => ?_) AllReady.nil
  go_simp
  refine hK _ _ ?_
  clear hK K
  refine wpAny_ready (rs := [21]) (by kernel_rfl) (by simp) ?_
  refine AllReady.cons rfl (fun K hK => ?_) AllReady.nil
  go_simp
  refine hK _ _ ?_
  clear hK K
  refine wpAny_done (by kernel_rfl) ?_ _
  go_wp2_with fail
  go_ret
  rw [← HX.out]
  exact ⟨rfl, ((Upd.refl w).alloc _).drew⟩

/-! ### A row that grows by strings -/
structure OwnB (w0 w : World) (A : Option Addr) (c : Nat) (b : List UInt8) : Prop where
  own : w.ownsRow w0.heap.size 5 1 (.slice A b.length c) b.length (bv b)
  fr : Fresh w0 w
theorem OwnB.nil {w0 w : World} (h : Fresh w0 w) : OwnB w0 w none 0 [] := ⟨World.ownsRow_nil _ _ _ _, h⟩
theorem OwnB.fresh {w0 w w' : World} {A : Option Addr} {c : Nat} {b : List UInt8} (h : OwnB w0 w A c b) (hu : Fresh w w') : OwnB w0 w' A c b := ⟨owns_upd h.own hu (fun _ _ h => h), h.fr.trans hu (fun _ _ h => h)⟩
theorem strCells_eq (d : List UInt8) : Lib.strCells ⟨d.toArray⟩ = bv d := by simp [Lib.strCells, bv]
theorem OwnB.app {w0 w w2 : World} {A : Option Addr} {c n : Nat} {b d : List UInt8} {v : Value} (h : OwnB w0 w A c b) (ho : w2.ownsRow w0.heap.size 5 1 v n (bv b ++ Lib.strCells ⟨d.toArray⟩)) (hn : n = (b ++ d).length) (hg : w.grownBy w2 (Value.slice A b.length c).ownBlock) :
    ∃ A2 c2, v = .slice A2 (b ++ d).length c2 ∧ OwnB w0 w2 A2 c2 (b ++ d) := by
  subst hn
  rw [strCells_eq, ← bv_append] at ho
  have hab : ∀ k, (Value.slice A b.length c).ownBlock = some k → w0.heap.size ≤ k := fun k hk => (h.own.lt k hk).1
  have hu := (Fresh.to (F := fun i => w0.heap.size ≤ i) h.fr).grown hg (fun i hi _ => hab i hi)
  have hf : Fresh w0 w2 := ⟨hu.os, hu.tape, hu.output, hu.size, fun k hk _ => hu.block k hk (by omega)⟩
  rcases ho.2 with ⟨rfl, h0⟩ | ⟨g, cap, cur, rfl, _⟩
  · exact ⟨none, 0, by rw [h0], by rw [h0]; rw [h0] at ho; exact ho, hf⟩
  · exact ⟨_, _, rfl, ho, hf⟩
theorem OwnB.reads {w0 w : World} {A : Option Addr} {c : Nat} {b : List UInt8} (h : OwnB w0 w A c b) : Reads w (fun _ => True) 1 A b.length (bv b) := (Reads.of_own h.own).weak (fun _ _ => trivial)

/-! ### The document's Encode -/
def REncO (r : List UInt8 × Nat) (w : World) (e : Ending) (w' : World) : Prop := e = .returned (.tuple #[.string ⟨r.1.toArray⟩, .int .i64 (r.2 : Int)]) ∧ Fresh w w'
structure REncAt (w0 w : World) (ls : List RLn) (k : Nat) (A : Option Addr) (c : Nat) (out : List UInt8) : Prop where
  own : OwnB w0 w A c out
  eq : encL (ls.drop k) out = encL ls []
  len : out.length + tot (ls.drop k) ≤ 140737488355328
set_option maxHeartbeats 1600000 in
theorem renc_o {A : Option Addr} {cp : Nat} {ls : List RLn} {w : World} (h : RLs w A ls) (hn : ls.length ≤ 9223372036854775807) (ht : tot ls ≤ 140737488355328) :
    Calls Try.prog 10 #[.slice A ls.length cp] w (REncO (encL ls []) w) := by
  obtain ⟨i0, hi0, hz0, hz1, hz2⟩ := info_parts Try.info5
  have H := Lib.hid h
  have HT := Lib.hid ht
  clear h ht
  go_enter Try.func10, Try.ntmps10
  go_wp2
  go_loopg [4, 5] ls.length (fun gk s4 s5 wx => ∃ (k : Nat) (A1 : Option Addr) (c1 : Nat) (out : List UInt8), gk + k = ls.length ∧ s5 = .int .i64 (k : Int) ∧ s4 = .slice A1 out.length c1 ∧ Hid (REncAt w wx ls k A1 c1 out))
  case atStart => exact ⟨0, none, 0, [], rfl, rfl, rfl, ⟨OwnB.nil (Upd.refl w), rfl, by simpa using HT.out⟩⟩
  case round =>
    obtain ⟨k, A1, c1, out, hgk, rfl, rfl, HE⟩ := hrel
    by_cases hk : k < ls.length
    · have HRL := Lib.hid (H.out.fresh HE.out.own.fr)
      obtain ⟨ad, hA, e0, e1⟩ := HRL.out.at_ hk
      subst hA
      have HQ := Lib.hid HE.out.eq
      have HN := Lib.hid HE.out.len
      have HO := Lib.hid HE.out.own
      rw [List.drop_eq_getElem_cons hk] at HQ HN
      have HAD := Lib.hid (show ∀ w9, Fresh w w9 → w9.cell? (ad.add (k * 2)) = some (.int .i64 ls[k].1) ∧ w9.cell? ⟨(ad.add (k * 2)).block, (ad.add (k * 2)).off + 1, none⟩ = some (.string ⟨ls[k].2.toArray⟩) from fun w9 h9 => by
        obtain ⟨ad2, hA2, a0, a1⟩ := (H.out.fresh h9).at_ hk
        injection hA2 with hA2
        subst hA2
        exact ⟨a0, a1⟩)
      clear HE HRL
      generalize ls[k] = x at e0 e1 HQ HN HAD
      obtain ⟨xk, xd⟩ := x
      dsimp only at e0 e1 HQ HN HAD
      by_cases c1_ : xk = 1
      · subst c1_
        have hsz : (⟨xd.toArray⟩ : ByteArray).size = xd.length := by simp [ByteArray.size]
        rcases xd with _ | ⟨x0, xd⟩
        · have HR := Lib.hid (show encL ls [] = ([], 3) by rw [← HQ.out, encL, if_pos (.inr (.inr ⟨rfl, rfl⟩))])
          go_wp2
          go_ret2
          rw [HR.out]
          exact ⟨rfl, HO.out.fr⟩
        · have hne : x0 :: xd ≠ [] := by simp
          have hpos : 0 < (x0 :: xd).length := by simp
          generalize x0 :: xd = b at *
          have hne2 : b.isEmpty = false := by simpa using hne
          by_cases c4_ : 65516 < b.length
          · have HR := Lib.hid (show encL ls [] = ([], 5) by
              rw [← HQ.out, encL, if_neg (by simp [hne]), if_neg (by simp), if_pos c4_])
            clear hne
            go_wp2
            go_ret2
            rw [HR.out]
            exact ⟨rfl, HO.out.fr⟩
          · have HR := Lib.hid (show encL (ls.drop (k + 1)) (out ++ hex4 (b.length + 4) ++ b) = encL ls [] by
              rw [← HQ.out]; conv => rhs; rw [encL, if_neg (by simp [hne]), if_neg (by simp), if_neg c4_])
            clear hne
            have hl : out.length + (b.length + 4) ≤ 140737488355328 := by have := HN.out; simp [tot] at this; omega
            have HC := Lib.hid (hex_o (b.length + 4) (by omega))
            have hxl : (hex4 (b.length + 4)).length = 4 := rfl
            generalize hex4 (b.length + 4) = hx at HC hxl HR
            have hxs : (⟨hx.toArray⟩ : ByteArray).size = 4 := by simpa [ByteArray.size] using hxl
            go_upto_region 11 with fail
            go_wp2_with (first
              | (go_at_call 25
                 rw [show (b.length : Int) + 4 = ((b.length + 4 : Nat) : Int) by omega]
                 refine (HC.out _).mono ?_
                 rintro e w2 ⟨rfl, h2⟩
                 have HO2 := Lib.hid (HO.out.fresh h2)
                 have HF2 := Lib.hid h2
                 clear h2)
              | (at_builtin
                 refine Lib.wpList_append_own_string _ rfl (.tmp 32) (.tmp 40) 23 9 rfl w.heap.size 5 i0 Try.underlying23 Try.underlying9 hi0 hz0 hz1 hz2 (.slice A1 out.length c1) out.length (bv out) rfl HO2.out.own ⟨hx.toArray⟩ rfl (by unfold maxLen; omega) (by omega) HO2.out.fr.size ?_
                 intro v3 w3 hown3 hg3 _
                 obtain ⟨A3, c3, rfl, h3⟩ := HO2.out.app (d := hx) hown3 (by rw [List.length_append]; rfl) hg3
                 have HO3 := Lib.hid h3
                 obtain ⟨q0, q1⟩ := HAD.out _ h3.fr
                 have hl3 : (out ++ hx).length + b.length ≤ 140737488355328 := by rw [List.length_append]; omega
                 have HLN := Lib.hid (show (out ++ hx).length = out.length + 4 by rw [List.length_append]; omega)
                 clear hown3 hg3 h3
                 generalize out ++ hx = o2 at HO3 hl3 HR HLN ⊢)
              | (at_builtin
                 refine Lib.wpList_append_own_string _ rfl (.tmp 42) (.tmp 47) 23 9 rfl w.heap.size 5 i0 Try.underlying23 Try.underlying9 hi0 hz0 hz1 hz2 (.slice A3 o2.length c3) o2.length (bv o2) rfl HO3.out.own ⟨b.toArray⟩ rfl (by unfold maxLen; omega) (by omega) HO3.out.fr.size ?_
                 intro v4 w4 hown4 hg4 _
                 obtain ⟨A4, c4, rfl, h4⟩ := HO3.out.app (d := b) hown4 (by rw [List.length_append]; rfl) hg4
                 have HO4 := Lib.hid h4
                 clear hown4 hg4 h4))
            go_roundg (gk - 1)
            case measure => omega
            case rel =>
              refine ⟨k + 1, A4, c4, o2 ++ b, by omega, by go_num, by rw [List.length_append], ⟨HO4.out, HR.out, ?_⟩⟩
              have := HN.out
              have := HLN.out
              rw [tot_cons] at *
              simp at *
              omega
      · by_cases c3_ : 2 ≤ xk ∧ xk ≤ 4
        · obtain ⟨q, hq⟩ : ∃ q : Nat, xk = (q : Int) + 2 := ⟨(xk - 2).toNat, by omega⟩
          subst hq
          have hq2 : q ≤ 2 := by omega
          have HR := Lib.hid (show encL (ls.drop (k + 1)) (out ++ hex4 q) = encL ls [] by
            rw [← HQ.out]; conv => rhs; rw [encL, if_neg (by omega), if_pos c1_]
            rcases (show q = 0 ∨ q = 1 ∨ q = 2 by omega) with rfl | rfl | rfl <;> rfl)
          have HC := Lib.hid (hex_o q (by omega))
          have hxl : (hex4 q).length = 4 := rfl
          generalize hex4 q = hx at HC hxl HR
          have hxs : (⟨hx.toArray⟩ : ByteArray).size = 4 := by simpa [ByteArray.size] using hxl
          have hl : out.length + 4 ≤ 140737488355328 := by have := HN.out; simp [tot] at this; omega
          go_upto_region 14 with fail
          go_wp2_with (first
            | (go_at_call 25
               refine (HC.out _).mono ?_
               rintro e w2 ⟨rfl, h2⟩
               have HO2 := Lib.hid (HO.out.fresh h2)
               clear h2)
            | (at_builtin
               refine Lib.wpList_append_own_string _ rfl (.tmp 64) (.tmp 71) 23 9 rfl w.heap.size 5 i0 Try.underlying23 Try.underlying9 hi0 hz0 hz1 hz2 (.slice A1 out.length c1) out.length (bv out) rfl HO2.out.own ⟨hx.toArray⟩ rfl (by unfold maxLen; omega) (by omega) HO2.out.fr.size ?_
               intro v3 w3 hown3 hg3 _
               obtain ⟨A3, c3, rfl, h3⟩ := HO2.out.app (d := hx) hown3 (by rw [List.length_append]; rfl) hg3
               have HO3 := Lib.hid h3
               clear hown3 hg3 h3))
          go_roundg (gk - 1)
          case measure => omega
          case rel =>
            refine ⟨k + 1, A3, c3, out ++ hx, by omega, by go_num, by rw [List.length_append, hxl], ⟨HO3.out, HR.out, ?_⟩⟩
            have := HN.out
            rw [tot_cons] at this
            simp at this ⊢
            omega
        · have HR := Lib.hid (show encL ls [] = ([], 3) by rw [← HQ.out, encL, if_pos (by omega)])
          by_cases c4_ : 2 ≤ xk
          · go_wp2_with fail
            go_ret2
            rw [HR.out]
            exact ⟨rfl, HO.out.fr⟩
          · go_wp2_with fail
            go_ret2
            rw [HR.out]
            exact ⟨rfl, HO.out.fr⟩
    · obtain rfl : k = ls.length := by omega
      have HQ := Lib.hid (show encL ls [] = (out, 0) by rw [← HE.out.eq, List.drop_length]; rfl)
      have cv := conv_of (c := c1) HE.out.own.reads
      go_wp2_with fail
      go_ret2
      rw [HQ.out]
      exact ⟨rfl, HE.out.own.fr⟩
end Go.Proofs.Ytgknfbmlljhidaa
