import Derived.Test.YtiiolpchefldlaaMf
namespace Go.Proofs.Ytiiolpchefldlaa
open Go.RowKit

theorem tmod_range (n : Int) (D : Nat) (hD : 1 ≤ D) : ∃ T : Int, n.tmod (D : Int) = T ∧ -(D : Int) < T ∧ T < (D : Int) := by
  refine ⟨_, rfl, ?_, ?_⟩
  · rcases Int.le_total 0 n with h | h
    · have := Int.tmod_nonneg (D : Int) h
      omega
    · have h1 := Int.tmod_lt_of_pos (-n) (show (0 : Int) < (D : Int) by omega)
      rw [Int.neg_tmod] at h1
      omega
  · exact Int.tmod_lt_of_pos n (by omega)
theorem tmod_range2 (n : Int) (D : Nat) (hD : 1 ≤ D) (hn : 0 ≤ n) : ∃ T : Nat, n.tmod (D : Int) = (T : Int) ∧ T < D := by
  have h1 := Int.tmod_nonneg (D : Int) hn
  have h2 := Int.tmod_lt_of_pos n (show (0 : Int) < (D : Int) by omega)
  exact ⟨(n.tmod (D : Int)).toNat, by omega, by omega⟩
set_option maxHeartbeats 3200000 in
set_option maxRecDepth 100000 in
theorem pieces_any {A0 : Option Addr} {cb : Nat} {b : List UInt8} (from_ n times : Int) {w : World} {m : Int} (hb : Sl w A0 b cb) (hbl : b.length ≤ 140737488355328)
    (hm : w.cell? ⟨0, 0, none⟩ = some (.int .i64 m)) (hf1 : -9223372036854775808 ≤ from_) (hf2 : from_ ≤ 9223372036854775807) (hn1 : -9223372036854775808 ≤ n) (hn2 : n ≤ 9223372036854775807) :
    Calls Try.prog 3 #[.slice A0 b.length cb, .int .i64 from_, .int .i64 n, .int .i64 times] w fun e w' => e = .returned (.bool true) ∧ Fresh w w' := by
  obtain ⟨i0, hi0, hz0, hz1, hz2⟩ := info_parts Try.info5
  obtain ⟨k0, hk0, hk1⟩ : ∃ k0 : Nat, bits .and .i64 times 7 = (k0 : Int) ∧ k0 < 8 := by
    have := i64_mask times 3 (by decide)
    refine ⟨(times % 8).toNat, ?_, by omega⟩
    rw [show (7 : Int) = 2 ^ 3 - 1 by decide, this]
    omega
  have HM := Lib.hid (fun (w9 : World) (hf : Fresh w w9) => (hf.cell (World.block_lt_of_cell? w _ hm) (fun h => h)).trans hm)
  have HB := Lib.hid hb
  clear hm hb
  go_enter Try.func3, Try.ntmps3
  go_upto_region 2 with (first
    | (at_builtin
       refine wpList_append_any _ rfl (.tmp 15) (.tmp 16) 22 rfl 5 i0 _ 1 1 Try.underlying22 hi0 hz0 hz1 hz2 rfl (by omega) (.slice (some ⟨w.heap.size, 0, none⟩) 0 0) 0 [] rfl (World.ownsRow_made w #[] 0 (Nat.zero_le _) (Nat.zero_le _) rfl) (fun _ => True) A0 b.length _ (bv b) rfl (HB.out.rd.alloc _) (bv_one _) (by unfold maxLen; omega) (by omega) ?_
       intro A1 c1 w1 hown1 hg1 hat1
       have HO1 := Lib.hid (show Own w w1 A1 c1 b from by
         have h0 : Own w (w.alloc (.cells #[] 5)) (some ⟨w.heap.size, 0, none⟩) 0 [] := ⟨World.ownsRow_made w #[] 0 (Nat.zero_le _) (Nat.zero_le _) rfl, fun k hk => by simp at hk; omega, (Upd.refl w).alloc _⟩
         exact h0.app (d := b) (Upd.refl _) hown1 (by simp) hg1 hat1)
       clear hown1 hg1 hat1))
  clear HB
  go_wp2_with fail
  go_loopg [9, 10] k0 (fun gk s9 s10 wx => ∃ (k : Nat) (A : Option Addr) (c : Nat) (l : List UInt8), k = gk ∧ s10 = .int .i64 (k : Int) ∧ s9 = .slice A l.length c ∧ l.length ≤ 140737488355328 ∧ k < 8 ∧ Hid (Own w wx A c l))
  case atStart => exact ⟨k0, A1, c1, b, rfl, rfl, rfl, hbl, hk1, HO1.out⟩
  case round =>
    obtain ⟨k, A, c, l, rfl, rfl, rfl, hll, hk8, HO⟩ := hrel
    obtain ⟨B, hB⟩ : ∃ B, decide (0 < k ∧ l.length < 70000) = B := ⟨_, rfl⟩
    go_upto_region 3 with fail
    go_cut [26] (fun s wx => s = .bool B ∧ wr = wx)
    case first =>
      obtain ⟨Z, hZ⟩ : ∃ Z : Int, (l.length : Int) = Z := ⟨_, rfl⟩
      by_cases g1 : 0 < k
      · by_cases g2 : l.length < 70000
        · have g3 : Z < 70000 := by omega
          have e : B = true := by rw [← hB]; exact decide_eq_true ⟨g1, g2⟩
          clear g2 hB
          subst e
          go_wp2_with fail
          go_meet
          exact ⟨rfl, rfl⟩
        · have g3 : ¬ Z < 70000 := by omega
          have e : B = false := by rw [← hB]; exact decide_eq_false (fun h => g2 h.2)
          clear g2 hB
          subst e
          go_wp2_with fail
          go_meet
          exact ⟨rfl, rfl⟩
      · have e : B = false := by rw [← hB]; exact decide_eq_false (fun h => g1 h.1)
        clear hB
        subst e
        go_wp2_with fail
        go_meet
        exact ⟨rfl, rfl⟩
    obtain ⟨rfl, rfl⟩ := hcut
    rcases B with _ | _
    · clear hB
      obtain ⟨B, hB⟩ : ∃ B, decide (l.length < 64 ∨ 150000 < l.length) = B := ⟨_, rfl⟩
      go_upto_region 6 with fail
      go_cut [39] (fun s wx => s = .bool B ∧ wr = wx)
      case first =>
        obtain ⟨Z, hZ⟩ : ∃ Z : Int, (l.length : Int) = Z := ⟨_, rfl⟩
        by_cases g1 : l.length < 64
        · have g3 : Z < 64 := by omega
          have e : B = true := by rw [← hB]; exact decide_eq_true (.inl g1)
          clear g1 hB
          subst e
          go_wp2_with fail
          go_meet
          exact ⟨rfl, rfl⟩
        · have g3 : ¬ Z < 64 := by omega
          by_cases g2 : 150000 < l.length
          · have g4 : (150000 : Int) < Z := by omega
            have e : B = true := by rw [← hB]; exact decide_eq_true (.inr g2)
            clear g1 g2 hB
            subst e
            go_wp2_with fail
            go_meet
            exact ⟨rfl, rfl⟩
          · have g4 : ¬ (150000 : Int) < Z := by omega
            have e : B = false := by rw [← hB]; exact decide_eq_false (fun h => h.elim g1 g2)
            clear g1 g2 hB
            subst e
            go_wp2_with fail
            go_meet
            exact ⟨rfl, rfl⟩
      obtain ⟨rfl, rfl⟩ := hcut
      rcases B with _ | _
      · have hlim := of_decide_eq_false hB
        have hl1 : 64 ≤ l.length := by omega
        have hl2 : l.length ≤ 150000 := by omega
        clear hB hlim hll
        go_upto_region 8 with fail
        go_cut [2] (fun s wx => ∃ n2 : Nat, s = .int .i64 (n2 : Int) ∧ 64 ≤ n2 ∧ n2 ≤ l.length ∧ wr = wx)
        case first =>
          obtain ⟨D, hD⟩ : ∃ D : Nat, D = l.length - 63 := ⟨_, rfl⟩
          have hD1 : 1 ≤ D := by omega
          have hDi : (l.length : Int) - 63 = (D : Int) := by omega
          obtain ⟨T, hT, hT1, hT2⟩ := tmod_range n D hD1
          obtain ⟨R, hR, hR1⟩ := tmod_range2 (T + (l.length : Int) - 63) D hD1 (by omega)
          have hDz : ((D : Int) == 0) = false := by rw [beq_eq_false_iff_ne]; omega
          have hDz2 : ¬ (D : Int) = 0 := by omega
          have hD2 : D < l.length := by omega
          replace hD := Lib.hid hD
          go_wp2_with fail
          go_meet
          exact ⟨64 + R, by simp, by omega, by omega, rfl⟩
        obtain ⟨n2, rfl, hn3, hn4, rfl⟩ := hcut
        go_upto_region 9 with fail
        go_cut [1] (fun s wx => ∃ f : Nat, s = .int .i64 (f : Int) ∧ f + n2 ≤ l.length ∧ wr = wx)
        case first =>
          obtain ⟨D, hD⟩ : ∃ D : Nat, D = l.length - n2 + 1 := ⟨_, rfl⟩
          have hD1 : 1 ≤ D := by omega
          have hD0 : (l.length : Int) - (n2 : Int) = (D : Int) - 1 := by omega
          have hDi : (l.length : Int) - (n2 : Int) + 1 = (D : Int) := by omega
          obtain ⟨T, hT, hT1, hT2⟩ := tmod_range from_ D hD1
          obtain ⟨R, hR, hR1⟩ := tmod_range2 (T + (l.length : Int) - (n2 : Int) + 1) D hD1 (by omega)
          have hDz : ((D : Int) == 0) = false := by rw [beq_eq_false_iff_ne]; omega
          have hDz2 : ¬ (D : Int) = 0 := by omega
          have hD2 : D < l.length := by omega
          replace hD := Lib.hid hD
          replace hD0 := Lib.hid hD0
          go_wp2_with fail
          go_meet
          exact ⟨R, by simp, by have := hD.out; omega, rfl⟩
        obtain ⟨f, rfl, hf3, rfl⟩ := hcut
        have hcp := owns_cap HO.out.own
        unfold maxLen at hcp
        obtain ⟨ad, hA, -⟩ := (Reads.of_own HO.out.own).2 (by omega)
        subst hA
        go_upto_region 10 with fail
        go_cut [11] (fun s wx => s = .slice (some (ad.add f)) n2 (c - f) ∧ wr = wx)
        case first =>
          have z0 : (f : Int) + (n2 : Int) ≤ (c : Int) := by omega
          have z1 : (f : Int) < (c : Int) := by omega
          go_wp2_with fail
          go_meet
          exact ⟨by simp, rfl⟩
        obtain ⟨rfl, rfl⟩ := hcut
        have htl : ((l.drop f).take n2).length = n2 := by rw [List.length_take, List.length_drop]; omega
        have HT := Lib.hid (show Sl wr (some (ad.add f)) ((l.drop f).take n2) (c - f) from ⟨sub_bytes HO.out.sl.rd f n2 (by omega), by omega, by omega, fun h => by cases h⟩)
        have HK := Lib.hid (make_found_o HO.out.sl HT.out (by omega) (by omega) (HM.out wr HO.out.fr) (index_found (k := f) (by omega) (by rw [htl])))
        unfold MakeO at HK
        generalize htgt : (l.drop f).take n2 = tgt at HT HK htl
        rw [htl] at HK
        clear htgt
        go_wp2_with fail
        refine HK.out.mono ?_
        rintro e w2 ⟨A2, code, hmk, hcl, rfl, G2⟩
        have HAP := applyS_makes (bound := n2) hmk (by omega) (by omega) (by omega)
        rw [htl] at HAP
        have hdl : (numS l.length ++ numS n2 ++ code).length ≤ 13 + 8 * (n2 / 65536) := by
          have h1 := numS_three (n := l.length) (by omega)
          have h2 := numS_three (n := n2) (by omega)
          rw [List.length_append, List.length_append]
          omega
        generalize numS l.length ++ numS n2 ++ code = d at G2 HAP hdl ⊢
        have HA := Lib.hid (apply_o (bound := (n2 : Int)) (HO.out.sl.fresh G2.2.2) (G2.sl (by omega)) (by omega) (by omega))
        rw [Int.toNat_natCast, HAP] at HA
        unfold ApplyO at HA
        dsimp only at HA
        rw [htl] at HA
        have F2 := Lib.hid (HO.out.fr.trans G2.2.2 (fun _ _ h => h))
        have HT2 := Lib.hid (HT.out.fresh G2.2.2)
        clear HK HAP hmk hcl G2 HT
        go_wp2_with fail
        refine HA.out.mono ?_
        rintro e w3 ⟨A3, rfl, G3⟩
        have F3 := Lib.hid (F2.out.trans G3.2.2 (fun _ _ h => h))
        have sx := arr_conv (n := n2) (c := n2) (l := tgt) (by have := G3.1; rwa [htl] at this)
        have sy : (convert 22 9 (.slice (some (ad.add f)) n2 (c - f))).run Try.prog w3 = .ok (.string ⟨tgt.toArray⟩) w3 := by
          have := conv_of (c := c - f) (HT2.out.fresh G3.2.2).rd
          rwa [htl] at this
        clear G3 HA HT2 F2
        obtain ⟨q, hq⟩ : ∃ q : Nat, q = n2 / 65536 := ⟨_, rfl⟩
        have hq1 : (n2 : Int).tdiv 65536 = (q : Int) := by rw [Int.tdiv_eq_ediv_of_nonneg (by omega)]; omega
        have hq2 : q ≤ 2 := by omega
        rw [← hq] at hdl
        have hdl2 : (d.length : Int) ≤ 24 + 8 * (q : Int) := by omega
        clear hq hdl
        go_wp2_with fail
        refine (awake_any _).mono ?_
        rintro e w9 ⟨rfl, F9⟩
        go_wp2_with fail
        go_ret
        exact ⟨rfl, F3.out.trans F9 (fun _ _ h => h)⟩
      · clear hB
        go_wp2_with fail
        refine (awake_any _).mono ?_
        rintro e w9 ⟨rfl, F9⟩
        go_wp2_with fail
        go_ret
        exact ⟨rfl, HO.out.fr.trans F9 (fun _ _ h => h)⟩
    · have hb2 := of_decide_eq_true hB
      clear hB
      go_wp2_with (first
        | (at_builtin
           refine wpList_append_any _ rfl (.tmp 29) (.tmp 30) 22 rfl 5 i0 _ 1 1 Try.underlying22 hi0 hz0 hz1 hz2 rfl (by omega) (.slice A l.length c) l.length (bv l) rfl HO.out.own (fun _ => True) A l.length c (bv l) rfl ((Reads.of_own HO.out.own).weak (fun _ _ => trivial)) (bv_one _) (by unfold maxLen; omega) (by omega) ?_
           intro A3 d3 w3 hown3 hg3 hat3
           have HO3 := Lib.hid (HO.out.app (Upd.refl _) hown3 (by rw [List.length_append]) hg3 hat3)
           clear hown3 hg3 hat3))
      go_roundg (k - 1)
      case measure => omega
      case rel => exact ⟨k - 1, A3, d3, l ++ l, rfl, by go_num, by rw [List.length_append], by rw [List.length_append]; omega, by omega, HO3.out⟩
end Go.Proofs.Ytiiolpchefldlaa
