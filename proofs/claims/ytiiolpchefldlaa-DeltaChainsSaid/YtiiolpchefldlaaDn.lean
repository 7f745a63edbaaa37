import Derived.Test.YtiiolpchefldlaaAwk
import Derived.Test.YtiiolpchefldlaaPs
import Derived.ArgAppend
import Derived.Deep.RegionWith
namespace Go.Proofs.Ytiiolpchefldlaa
open Go.RowKit

/-! ### append onto bytes that have no room -/
theorem owns_base {w : World} {b : Nat} {e : TypeId} {size n : Nat} {v : Value} {xs : List Value} (h : w.ownsRow b e size v n xs) : w.ownsRow 0 e size v n xs := by
  refine ⟨h.1, ?_⟩
  rcases h.2 with h0 | ⟨g, cap, cur, h1, h2, h3⟩
  · exact .inl h0
  · exact .inr ⟨g, cap, cur, h1, Nat.zero_le _, h3⟩
theorem Own.grows {w0 w w' : World} {v : Value} {n : Nat} {b d : List UInt8} (hf : Fresh w0 w) (ho : w'.ownsRow w.heap.size 5 1 v n (bv b ++ bv d)) (hg : w.grownBy w' none) (hn : n = (b ++ d).length) : ∃ A c, v = .slice A (b ++ d).length c ∧ Own w0 w' A c (b ++ d) := by
  subst hn
  obtain ⟨A, c, rfl⟩ := ho.shape
  refine ⟨A, c, rfl, by rw [bv_append]; exact owns_base ho, fun k hk => ?_, ?_⟩
  · have h1 := (ho.lt k (by rw [ownBlock_map]; exact hk)).1
    have := hf.size
    omega
  · have h1 := (Fresh.to hf : Upd (fun _ => False) w0 w).grown hg (fun _ h => by cases h)
    exact h1
theorem Own.sl {w0 w : World} {A : Option Addr} {c : Nat} {b : List UInt8} (h : Own w0 w A c b) : Sl w A b c := by
  have hc := owns_cap h.own
  refine ⟨(Reads.of_own h.own).weak (fun _ _ => trivial), hc.1, by have := hc.2.2; unfold maxLen at this; omega, fun e => owns_none h.own e⟩
theorem Arr.cells1 {w : World} {ad : Addr} {n : Nat} {b : List UInt8} (h : Arr w 5 (some ad) n (bv b)) : ∀ j u, (bv b)[j]? = some u → w.cell? (ad.add j) = some u := by
  intro j u hu
  have hj : j < b.length := by have := (List.getElem?_eq_some_iff.1 hu).1; simpa [bv] using this
  obtain ⟨ad', e, _, _, hc⟩ := h.reads.2 (by have := h.1; simp [bv] at this; omega)
  injection e with e
  subst e
  exact hc j u hu
theorem numbers_sizes (n m : Nat) (hn : n < 2147483648) (hm : m < 2147483648) : sizesS (numS n ++ numS m) = (n, m, [], 0) := by
  have h1 := numDS_numS n (numS m) hn
  have h2 := numDS_numS m [] hm
  rw [List.append_nil] at h2
  unfold sizesS
  rw [h1]
  dsimp only
  rw [h2]
  simp
set_option maxHeartbeats 3200000 in
set_option maxRecDepth 100000 in
theorem numbers_any (n m : Int) (w : World) (hn1 : -9223372036854775808 ≤ n) (hn2 : n ≤ 9223372036854775807) (hm1 : -9223372036854775808 ≤ m) (hm2 : m ≤ 9223372036854775807) :
    Calls Try.prog 6 #[.int .i64 n, .int .i64 m] w fun e w' => e = .returned (.bool true) ∧ Fresh w w' := by
  obtain ⟨i0, hi0, hz0, hz1, hz2⟩ := info_parts Try.info5
  go_enter Try.func6, Try.ntmps6
  go_wp2_with fail
  refine (number_o n w hn1 hn2).mono ?_
  rintro e w1 ⟨A1, rfl, G1⟩
  replace G1 := Lib.hid G1
  go_wp2_with fail
  refine (number_o m w1 hm1 hm2).mono ?_
  rintro e w2 ⟨A2, rfl, G2⟩
  have F2 := Lib.hid (G1.out.2.2.trans G2.2.2 (fun _ _ h => h))
  have R1 := Lib.hid (G1.out.1.upd G2.2.2 (fun _ _ h => h))
  replace G2 := Lib.hid G2
  have l1 := numS_pos n.toNat
  have l2 := numS_pos m.toNat
  have l3 := numS_len n.toNat
  have l4 := numS_len m.toNat
  obtain ⟨a1, hA1, -⟩ := R1.out.reads.2 (by omega)
  obtain ⟨a2, hA2, -⟩ := G2.out.1.reads.2 (by omega)
  subst hA1 hA2
  have e1 : (bv (numS n.toNat)).length = (numS n.toNat).length * 1 := by simp [bv]
  have e2 : (bv (numS m.toNat)).length = (numS m.toNat).length * 1 := by simp [bv]
  have HK := Lib.hid (numbers_sizes n.toNat m.toNat)
  generalize numS n.toNat = p at *
  generalize numS m.toNat = q at *
  go_wp2_with (first
    | (at_builtin
       refine wpList_append_grows _ rfl (.tmp 11) (.tmp 13) 22 rfl 5 i0 _ 1 1 Try.underlying22 hi0 hz0 hz1 hz2 rfl (by omega) (some a1) p.length p.length (bv p) rfl (fun h => by cases h) e1 (fun b hb => by injection hb with hb; subst hb; exact R1.out.cells1) a2 q.length q.length (bv q) rfl e2 G2.out.1.cells1 (bv_one _) (by omega) (by unfold maxLen; omega) (by omega) ?_
       intro v3 w3 hown3 hg3
       obtain ⟨A3, c3, rfl, HO⟩ := Own.grows F2.out hown3 hg3 (by rw [List.length_append])
       replace HO := Lib.hid HO
       clear hown3 hg3))
  rw [← List.length_append]
  have HSZ := Lib.hid (sizesP_o HO.out.sl)
  have HRZ := Lib.hid (fun (w9 : World) (h9 : Fresh w3 w9) => rsizes_o (HO.out.fresh h9).sl)
  have HSA := Lib.hid (sizes_same (p ++ q))
  replace HO := Lib.hid HO.out.fr
  clear G1 R1 G2 F2 e1 e2 l1 l2 l3 l4
  generalize p ++ q = b at *
  refine HSZ.out.mono ?_
  rintro e w4 ⟨rfl, F4⟩
  replace F4 := Lib.hid F4
  generalize hsz : sizesS b = r at HK HSA ⊢
  generalize hrz : rsizesS b = r2 at HSA HRZ
  clear hsz hrz HSZ
  obtain ⟨x, y, rest, ee⟩ := r
  obtain ⟨x2, y2, u2, e2⟩ := r2
  dsimp only at HK HSA ⊢
  go_upto_region 3 with fail
  go_cut [27] (fun s wx => s = .bool false ∧ Hid (Fresh w4 wx))
  case first =>
    have T5 := Lib.hid ((Upd.refl (F := fun _ => False) w4).drew)
    go_region_with (first
      | (go_at_call 12
         refine (number_o n _ hn1 hn2).mono ?_
         rintro e w5 ⟨A5, rfl, G5⟩
         have sa := arr_conv (n := (numS n.toNat).length) (c := (numS n.toNat).length) G5.1
         replace T5 := Lib.hid (T5.out.trans G5.2.2 (fun _ _ h => h))
         have HA := Lib.hid G5.1
         clear G5)
      | (go_at_call 13
         refine (rnumber_o n _ hn1 hn2).mono ?_
         rintro e w6 ⟨A6, c6, rfl, G6⟩
         have sb := arr_conv (n := (numS n.toNat).length) (c := c6) (Arr.of_own G6.own)
         have sa := arr_conv (n := (numS n.toNat).length) (c := (numS n.toNat).length) (HA.out.upd G6.fr (fun _ _ h => h))
         replace T5 := Lib.hid (T5.out.trans G6.fr (fun _ _ h => h))
         clear G6))
    all_goals go_wp2_with fail
    all_goals go_meet
    all_goals exact ⟨by simp, T5.out⟩
  obtain ⟨rfl, F5⟩ := hcut
  obtain ⟨B, hB⟩ : ∃ B, decide (0 ≤ n ∧ 0 ≤ m ∧ n < 2147483648 ∧ m < 2147483648) = B := ⟨_, rfl⟩
  go_upto_region 5 with fail
  go_cut [41] (fun s wx => s = .bool B ∧ wc = wx)
  case first =>
    by_cases k1 : 0 ≤ n
    · by_cases k2 : 0 ≤ m
      · by_cases k3 : n < 2147483648
        · by_cases k4 : m < 2147483648
          · go_wp2_with fail
            go_meet
            exact ⟨by rw [← hB]; first | exact congrArg Value.bool (decide_eq_true (by omega)).symm | exact congrArg Value.bool (decide_eq_false (by omega)).symm, rfl⟩
          · go_wp2_with fail
            go_meet
            exact ⟨by rw [← hB]; first | exact congrArg Value.bool (decide_eq_true (by omega)).symm | exact congrArg Value.bool (decide_eq_false (by omega)).symm, rfl⟩
        · go_wp2_with fail
          go_meet
          exact ⟨by rw [← hB]; first | exact congrArg Value.bool (decide_eq_true (by omega)).symm | exact congrArg Value.bool (decide_eq_false (by omega)).symm, rfl⟩
      · go_wp2_with fail
        go_meet
        exact ⟨by rw [← hB]; first | exact congrArg Value.bool (decide_eq_true (by omega)).symm | exact congrArg Value.bool (decide_eq_false (by omega)).symm, rfl⟩
    · go_wp2_with fail
      go_meet
      exact ⟨by rw [← hB]; first | exact congrArg Value.bool (decide_eq_true (by omega)).symm | exact congrArg Value.bool (decide_eq_false (by omega)).symm, rfl⟩
  obtain ⟨rfl, rfl⟩ := hcut
  rcases B with _ | _
  · clear hB HK
    go_wp2_with fail
    refine (HRZ.out _ (F4.out.trans F5.out (fun _ _ h => h))).mono ?_
    rintro e w6 ⟨rfl, F6⟩
    obtain ⟨q1, q2, q3⟩ := HSA.out
    dsimp only
    subst q1 q2 q3
    have F7 := Lib.hid (((HO.out.trans F4.out (fun _ _ h => h)).trans F5.out (fun _ _ h => h)).trans F6 (fun _ _ h => h))
    clear F6 F5 F4 HO HRZ
    go_upto_region 8 with fail
    have HB := Lib.hid (Blk.new w6 37 #[.int .i64 (x2 : Int), .int .i64 (y2 : Int), .int .i64 (u2 : Int), .int .i64 (e2 : Int)])
    have F8 := Lib.hid (F7.out.alloc (.cells #[.int .i64 (x2 : Int), .int .i64 (y2 : Int), .int .i64 (u2 : Int), .int .i64 (e2 : Int)] 37))
    generalize w6.alloc (.cells #[.int .i64 (x2 : Int), .int .i64 (y2 : Int), .int .i64 (u2 : Int), .int .i64 (e2 : Int)] 37) = w8 at HB F8 ⊢
    generalize w6.heap.size = g at HB ⊢
    have c0 := HB.out.cell 0
    have c1 := HB.out.cell 1
    have c3 := HB.out.cell 3
    simp only [List.getElem?_toArray, List.getElem?_cons_zero, List.getElem?_cons_succ] at c0 c1 c3
    go_wp2_with fail
    refine (awake_any _).mono ?_
    rintro e w9 ⟨rfl, F9⟩
    go_wp2_with fail
    go_ret
    exact ⟨rfl, F8.out.trans F9 (fun _ _ h => h)⟩
  · have hb := of_decide_eq_true hB
    have hk := HK.out (by omega) (by omega)
    injection hk with k1 hk
    injection hk with k2 hk
    injection hk with k3 k4
    have k1 : (x : Int) = n := by omega
    have k2 : (y : Int) = m := by omega
    clear hB hb
    subst k3 k4
    rw [k1, k2]
    go_wp2_with fail
    refine (awake_any _).mono ?_
    rintro e w6 ⟨rfl, F6⟩
    go_wp2_with fail
    go_ret
    exact ⟨rfl, ((HO.out.trans F4.out (fun _ _ h => h)).trans F5.out (fun _ _ h => h)).trans F6 (fun _ _ h => h)⟩
end Go.Proofs.Ytiiolpchefldlaa
