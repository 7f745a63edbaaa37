import Derived.Test.YtiiolpchefldlaaDn
namespace Go.Proofs.Ytiiolpchefldlaa
open Go.RowKit

theorem numbers_rest (n m : Nat) (r : List UInt8) (hn : n < 2147483648) (hm : m < 2147483648) : sizesS (numS n ++ numS m ++ r) = (n, m, r, 0) := by
  have h1 := numDS_numS n (numS m ++ r) hn
  have h2 := numDS_numS m r hm
  unfold sizesS
  rw [List.append_assoc, h1]
  dsimp only
  rw [h2]
  simp
theorem place55 (x0 x1 x2 x4 x5 : UInt8) : placeS 55 [x0, x1, x2, x4, x5] = some (x0.toNat + x1.toNat * 256 + x2.toNat * 65536, if x4.toNat + x5.toNat * 256 = 0 then 65536 else x4.toNat + x5.toNat * 256, []) := by
  unfold placeS
  have : placeD 7 55 0 0 0 [x0, x1, x2, x4, x5] = some (x0.toNat + x1.toNat * 256 + x2.toNat * 65536, x4.toNat + x5.toNat * 256, []) := by
    simp [placeD]
  rw [this]
theorem copies_law (base : List UInt8) (a k size bound : Nat) (x0 x1 x2 x4 x5 : UInt8) (hl : base.length = 70000) (hs : size = if k = 0 then 65536 else k) (hk : k < 65536) (ha : a < 131072)
    (h0 : x0.toNat = a % 256) (h1 : x1.toNat = a / 256 % 256) (h2 : x2.toNat = a / 65536 % 256) (h4 : x4.toNat = k % 256) (h5 : x5.toNat = k / 256 % 256) :
    applyS base (numS 70000 ++ numS size ++ [183, x0, x1, x2, x4, x5]) bound = if bound < size then ([], 5) else if 70000 < a ∨ 70000 - a < size then ([], 3) else ((base.drop a).take size, 0) := by
  have e1 : x0.toNat + x1.toNat * 256 + x2.toNat * 65536 = a := by omega
  have e2 : x4.toNat + x5.toNat * 256 = k := by omega
  have e3 : (183 : UInt8).toNat = 183 := rfl
  have hs1 : 1 ≤ size ∧ size ≤ 65536 := by rw [hs]; split <;> omega
  unfold applyS
  rw [numbers_rest 70000 size _ (by omega) (by omega)]
  dsimp only
  rw [if_neg (by simp), if_neg (by omega)]
  by_cases hb : bound < size
  · rw [if_pos hb, if_pos hb]
  · rw [if_neg hb, if_neg hb]
    have hst : stepS base size [] 183 [x0, x1, x2, x4, x5] = if 70000 < a ∨ 70000 - a < size then (3, [], []) else (0, (base.drop a).take size, []) := by
      unfold stepS
      rw [e3, if_pos (by omega), show 183 % 128 = 55 by rfl, place55, e1, e2, ← hs, hl]
      dsimp only [List.length_nil]
      by_cases hc : 70000 < a ∨ 70000 - a < size
      · rw [if_pos (by omega), if_pos hc]
      · rw [if_neg (by omega), if_neg hc, List.nil_append]
    rw [show ([183, x0, x1, x2, x4, x5] : List UInt8).length + 1 = 6 + 1 by rfl, runD, hst]
    by_cases hc : 70000 < a ∨ 70000 - a < size
    · rw [if_pos hc, if_pos hc, if_pos (by simp)]
    · rw [if_neg hc, if_neg hc, if_neg (by simp)]
      dsimp only
      rw [runD, if_neg (by rw [List.length_take, List.length_drop]; omega)]
theorem Arr.sl {w : World} {A : Option Addr} {n c : Nat} {l : List UInt8} (h : Arr w 5 A n (bv l)) (hn : n ≤ c) (hc : c ≤ 9223372036854775807) (h0 : A = none → c = 0) : Sl w A l c := by
  have hl : l.length = n := by have := h.1; simpa [bv] using this
  subst hl
  exact ⟨h.reads.weak (fun _ _ => trivial), hn, hc, h0⟩
theorem bv_replicate (n : Nat) : (madeCells (Value.int .u8 0).cells (n * 1)).toList = bv (List.replicate n 0) := by
  rw [show (Value.int .u8 0).cells = #[.int .u8 0] from rfl, toList_madeCells_one, Nat.mul_one, bv, List.map_replicate]
  rfl
theorem bv_set (l : List UInt8) (j : Nat) (x : UInt8) : (bv l).set j (.int .u8 (x.toNat : Int)) = bv (l.set j x) := by
  rw [bv, bv, List.map_set]
set_option maxHeartbeats 3200000 in
set_option maxRecDepth 100000 in
theorem copies_any (at_ n : Int) (w : World) (hn1 : -9223372036854775808 ≤ at_) (hn2 : at_ ≤ 9223372036854775807) (hm1 : -9223372036854775808 ≤ n) (hm2 : n ≤ 9223372036854775807) :
    Calls Try.prog 5 #[.int .i64 at_, .int .i64 n] w fun e w' => e = .returned (.bool true) ∧ Fresh w w' := by
  obtain ⟨i0, hi0, hz0, hz1, hz2⟩ := info_parts Try.info5
  obtain ⟨N, hN⟩ : ∃ N : Nat, N = 70000 := ⟨_, rfl⟩
  have HNi := Lib.hid (show (70000 : Int) = (N : Int) by omega)
  have hN1 : N ≤ 70000 := by omega
  have hN2 : 70000 ≤ N := by omega
  replace hN := Lib.hid hN
  go_enter Try.func5, Try.ntmps5
  go_upto_region 1 with fail
  go_wp2_with (first
    | (at_make
       refine wpList_make_full _ rfl _ _ 22 rfl w.heap.size 5 i0 _ 1 Try.underlying22 hi0 hz0 hz1 _ _ _ _ N rfl rfl HNi.out HNi.out (by rw [hz2]; omega) (by unfold maxLen; omega) (Nat.le_refl _) ?_
       intro w1 hown1 hg1
       rw [bv_replicate] at hown1
       have HF1 := Lib.hid ((Upd.refl (F := fun _ => False) w).grown hg1 (fun _ h => by cases h))
       have HG := Lib.hid (show w.heap.size ≤ (⟨w.heap.size, 0, none⟩ : Addr).block from Nat.le_refl _)
       have HA1 := Lib.hid (Arr.of_own (owns_base hown1))
       generalize (⟨w.heap.size, 0, none⟩ : Addr) = ad at HG HA1 ⊢
       clear hown1 hg1))
  go_loopg [6, 16] N (fun gk s6 s16 wx => ∃ (i : Nat) (l : List UInt8), gk + i = N ∧ s16 = .int .i64 (i : Int) ∧ Hid (Arr wx 5 (some ad) N (bv l)) ∧ Hid (Fresh w wx))
  case atStart => exact ⟨0, _, rfl, rfl, HA1.out, HF1.out⟩
  case round =>
    obtain ⟨i, l, hgk, rfl, HA, HF⟩ := hrel
    by_cases hi : i < N
    · have hll : l.length = N := by have := HA.out.1; simpa [bv] using this
      have hc := HA.out.cells1 i _ (by rw [bv, List.getElem?_map, List.getElem?_eq_getElem (by omega)]; rfl)
      have hf := HA.out.frozen rfl hi
      have hmul : (i : Int) * (i : Int) = ((i * i : Nat) : Int) := by simp
      have hmb : i * i ≤ 70000 * 70000 := Nat.mul_le_mul (by omega) (by omega)
      generalize hj : i * i = j at hmul hmb
      have hv : ((j : Int) / 8) % 256 = (((UInt8.ofNat (j / 8)).toNat : Nat) : Int) := by rw [UInt8.toNat_ofNat']; omega
      generalize UInt8.ofNat (j / 8) = x at hv
      have HS := Lib.hid (HA.out.set_ hi (.int .u8 (x.toNat : Int)))
      have HFS := Lib.hid (HF.out.setCell (p := ad.add i) (fun h => by rw [block_of_add] at h; have := HG.out; omega) (.int .u8 (x.toNat : Int)))
      rw [bv_set] at HS
      clear hj HA HF
      go_wp2_with fail
      go_roundg (gk - 1)
      case measure => omega
      case rel => exact ⟨i + 1, l.set i x, by omega, by go_num, HS.out, HFS.out⟩
    · obtain ⟨a, ha⟩ : ∃ a : Nat, (a : Int) = at_ % 131072 := ⟨(at_ % 131072).toNat, by omega⟩
      obtain ⟨k, hk⟩ : ∃ k : Nat, (k : Int) = n % 65536 := ⟨(n % 65536).toNat, by omega⟩
      have ha2 : a < 131072 := by omega
      have hk2 : k < 65536 := by omega
      have hA : bits .and .i64 at_ 131071 = (a : Int) := by
        have := i64_mask at_ 17 (by decide)
        rw [ha]
        exact this
      have hK : bits .and .i64 n 65535 = (k : Int) := by
        have := i64_mask n 16 (by decide)
        rw [hk]
        exact this
      have hll : l.length = 70000 := by have := HA.out.1; simp only [bv_length] at this; omega
      clear ha hk hN1 hN2 HNi HF1 HA1
      obtain ⟨size, hsize⟩ : ∃ size, size = if k = 0 then 65536 else k := ⟨_, rfl⟩
      have hs1 : 1 ≤ size := by rw [hsize]; split <;> omega
      have hs2 : size ≤ 65536 := by rw [hsize]; split <;> omega
      go_upto_if 34 with fail
      go_cut [7] (fun s wx => s = .int .i64 (size : Int) ∧ wr = wx)
      case first =>
        by_cases h0 : k = 0
        · subst h0
          rw [if_pos rfl] at hsize
          subst hsize
          go_wp2_with fail
          go_meet
          exact ⟨rfl, rfl⟩
        · rw [if_neg h0] at hsize
          subst hsize
          have h1 : ((size : Int) == 0) = false := by rw [beq_eq_false_iff_ne]; omega
          go_wp2_with fail
          go_meet
          exact ⟨rfl, rfl⟩
      obtain ⟨rfl, rfl⟩ := hcut
      obtain ⟨x0, h0⟩ : ∃ x : UInt8, x.toNat = a % 256 := ⟨UInt8.ofNat (a % 256), by rw [UInt8.toNat_ofNat']; omega⟩
      obtain ⟨x1, h1⟩ : ∃ x : UInt8, x.toNat = a / 256 % 256 := ⟨UInt8.ofNat (a / 256 % 256), by rw [UInt8.toNat_ofNat']; omega⟩
      obtain ⟨x2, h2⟩ : ∃ x : UInt8, x.toNat = a / 65536 % 256 := ⟨UInt8.ofNat (a / 65536 % 256), by rw [UInt8.toNat_ofNat']; omega⟩
      obtain ⟨x4, h4⟩ : ∃ x : UInt8, x.toNat = k % 256 := ⟨UInt8.ofNat (k % 256), by rw [UInt8.toNat_ofNat']; omega⟩
      obtain ⟨x5, h5⟩ : ∃ x : UInt8, x.toNat = k / 256 % 256 := ⟨UInt8.ofNat (k / 256 % 256), by rw [UInt8.toNat_ofNat']; omega⟩
      have HL := Lib.hid (fun bound => copies_law l a k size bound x0 x1 x2 x4 x5 hll hsize hk2 ha2 h0 h1 h2 h4 h5)
      have y0 : (a : Int) % 256 = (x0.toNat : Int) := by omega
      have y1 : (a : Int) / 256 % 256 = (x1.toNat : Int) := by omega
      have y2 : (a : Int) / 65536 = (x2.toNat : Int) := by omega
      have y4 : (k : Int) % 256 = (x4.toNat : Int) := by omega
      have y5 : (k : Int) / 256 = (x5.toNat : Int) := by omega
      clear h0 h1 h2 h4 h5 hsize
      replace hll := Lib.hid hll
      go_wp2_with fail
      refine (number_o 70000 wr (by omega) (by omega)).mono ?_
      rintro e w2 ⟨A1, rfl, G1⟩
      rw [show (70000 : Int).toNat = 70000 by rfl] at G1 ⊢
      have l1 := numS_pos 70000
      have l3 := numS_len 70000
      generalize numS 70000 = p at HL G1 l1 l3 ⊢
      replace G1 := Lib.hid G1
      go_wp2_with fail
      refine (number_o (size : Int) w2 (by omega) (by omega)).mono ?_
      rintro e w3 ⟨A2, rfl, G2⟩
      rw [Int.toNat_natCast] at G2 ⊢
      have l2 := numS_pos size
      have l4 := numS_len size
      generalize numS size = q at HL G2 l2 l4 ⊢
      have F2 := Lib.hid (G1.out.2.2.trans G2.2.2 (fun _ _ h => h))
      have R1 := Lib.hid (G1.out.1.upd G2.2.2 (fun _ _ h => h))
      replace G2 := Lib.hid G2
      obtain ⟨a1, hA1, -⟩ := R1.out.reads.2 (by omega)
      obtain ⟨a2, hA2, -⟩ := G2.out.1.reads.2 (by omega)
      subst hA1 hA2
      have e1 : (bv p).length = p.length * 1 := by simp [bv]
      have e2 : (bv q).length = q.length * 1 := by simp [bv]
      go_upto_region 12 with (first
        | (at_builtin
           refine wpList_append_grows _ rfl (.tmp 35) (.tmp 37) 22 rfl 5 i0 _ 1 1 Try.underlying22 hi0 hz0 hz1 hz2 rfl (by omega) (some a1) p.length p.length (bv p) rfl (fun h => by cases h) e1 (fun b hb => by injection hb with hb; subst hb; exact R1.out.cells1) a2 q.length q.length (bv q) rfl e2 G2.out.1.cells1 (bv_one _) (by omega) (by unfold maxLen; omega) (by omega) ?_
           intro v4 w4 hown4 hg4
           obtain ⟨A3, c3, rfl, HO⟩ := Own.grows F2.out hown4 hg4 (by rw [List.length_append])
           replace HO := Lib.hid HO
           clear hown4 hg4))
      rw [← List.length_append] at *
      have l5 : (p ++ q).length ≤ 20 := by rw [List.length_append]; omega
      clear G1 R1 G2 F2 e1 e2 l1 l2 l3 l4
      generalize p ++ q = b at HL HO l5 ⊢
      go_wp2_with (first
        | (at_builtin
           refine wpList_append_any _ rfl (.tmp 39) (.tmp 53) 22 rfl 5 i0 _ 1 1 Try.underlying22 hi0 hz0 hz1 hz2 rfl (by omega) (.slice A3 b.length c3) b.length (bv b) rfl (HO.out.fresh ((Upd.refl _).alloc _)).own (fun _ => True) (some ⟨w4.heap.size, 0, none⟩) 6 6 (bv [183, x0, x1, x2, x4, x5]) rfl (reads_cells w4 [183, x0, x1, x2, x4, x5] #[.int .u8 183, .int .u8 x0.toNat, .int .u8 x1.toNat, .int .u8 x2.toNat, .int .u8 x4.toNat, .int .u8 x5.toNat] rfl 6 rfl) (bv_one _) (by unfold maxLen; omega) (by omega) ?_
           intro A5 d5 w5 hown5 hg5 hat5
           have HO5 := Lib.hid (HO.out.app ((Upd.refl w4).alloc _) hown5 (by simp) hg5 hat5)
           clear hown5 hg5 hat5))
      have hlN : l.length = N := by have := hll.out; have := hN.out; omega
      have hdl : (b ++ [183, x0, x1, x2, x4, x5]).length = b.length + 6 := by simp
      have HAP := Lib.hid (show ∀ (W : World) (hW : Fresh w5 W) (bound : Int), -9223372036854775808 ≤ bound → bound ≤ 9223372036854775807 → Calls Try.prog 10 #[.slice (some ad) N N, .slice A5 (b.length + 6) d5, .int .i64 bound] W (ApplyO (applyS l (b ++ [183, x0, x1, x2, x4, x5]) bound.toNat) W) from fun W hW bound h1 h2 => by
        have hs : Sl W (some ad) l N := Arr.sl (HA.out.upd (HO5.out.fr.trans hW (fun _ _ h => h)) (fun _ _ h => h)) (Nat.le_refl _) (by have := hN.out; omega) (fun h => by cases h)
        have := apply_o (bound := bound) hs (HO5.out.fresh hW).sl h1 h2
        rwa [hlN, hdl] at this)
      have HSB := Lib.hid (show ∀ (W : World) (hW : Fresh w5 W), a + size ≤ 70000 → (convert 22 9 (.slice (some (ad.add a)) size (N - a))).run Try.prog W = .ok (.string ⟨((l.drop a).take size).toArray⟩) W from fun W hW h => by
        have hs : Sl W (some ad) l N := Arr.sl (HA.out.upd (HO5.out.fr.trans hW (fun _ _ h => h)) (fun _ _ h => h)) (Nat.le_refl _) (by have := hN.out; omega) (fun h => by cases h)
        have h1 := sub_bytes hs.rd a size (by have := hll.out; omega)
        have h2 := conv_of (c := N - a) h1
        have e : ((l.drop a).take size).length = size := by rw [List.length_take, List.length_drop]; have := hll.out; omega
        rwa [e] at h2)
      have hN3 : 70000 ≤ N := by have := hN.out; omega
      have hN4 : N ≤ 70000 := by have := hN.out; omega
      have HF5 := Lib.hid (HF.out.trans HO5.out.fr (fun _ _ h => h))
      clear hlN hdl HA HF HO5 HO hA hK hn1 hn2 hm1 hm2
      have HL1 := Lib.hid (HL.out 70000)
      have HL2 := Lib.hid (HL.out (size - 1))
      rw [if_neg (by omega)] at HL1
      rw [if_pos (by omega)] at HL2
      have HA1 := Lib.hid (HAP.out w5 (Upd.refl w5) 70000 (by omega) (by omega))
      have HA2 := Lib.hid (fun W hW => HAP.out W hW ((size : Int) - 1) (by omega) (by omega))
      rw [show (70000 : Int).toNat = 70000 by rfl, HL1.out] at HA1
      rw [show ((size : Int) - 1).toNat = size - 1 by omega, HL2.out] at HA2
      clear HL HL1 HL2 HAP
      have hpl : a + size ≤ 70000 → ((l.drop a).take size).length = size := fun h => by rw [List.length_take, List.length_drop]; have := hll.out; omega
      replace hpl := Lib.hid hpl
      generalize (l.drop a).take size = pc at HA1 HSB hpl
      by_cases hc : 70000 < a ∨ 70000 - a < size
      · rw [if_pos hc] at HA1
        clear HA2 HSB hpl
        refine HA1.out.mono ?_
        rintro e w6 ⟨A6, rfl, G6⟩
        have F6 := Lib.hid (HF5.out.trans G6.2.2 (fun _ _ h => h))
        dsimp only [List.length_nil]
        rcases (show (70000 : Int) < (a : Int) ∨ ((a : Int) ≤ 70000 ∧ (70000 : Int) - (a : Int) < (size : Int)) by omega) with q1 | ⟨q1, q2⟩
        all_goals
          clear hc G6
          go_wp2_with fail
          refine (awake_any _).mono ?_
          rintro e w9 ⟨rfl, F9⟩
          go_wp2_with fail
          go_ret
          exact ⟨rfl, F6.out.trans F9 (fun _ _ h => h)⟩
      · rw [if_neg hc] at HA1
        have q1 : (a : Int) ≤ 70000 := by omega
        have q2 : (size : Int) ≤ (70000 : Int) - (a : Int) := by omega
        have q3 : a + size ≤ 70000 := by omega
        have q4 : (a : Int) < (N : Int) := by omega
        have q5 : (a : Int) + (size : Int) ≤ (N : Int) := by omega
        have hpl := hpl.out q3
        refine HA1.out.mono ?_
        rintro e w6 ⟨A6, rfl, G6⟩
        unfold Got at G6
        dsimp only at G6 ⊢
        rw [hpl] at G6 ⊢
        replace G6 := Lib.hid G6
        replace hpl := Lib.hid hpl
        clear hc
        go_wp2_with fail
        refine (HA2.out w6 G6.out.2.2).mono ?_
        rintro e w7 ⟨A7, rfl, G7⟩
        have F7 := Lib.hid ((HF5.out.trans G6.out.2.2 (fun _ _ h => h)).trans G7.2.2 (fun _ _ h => h))
        have HS := Lib.hid (show ∀ W, Fresh w7 W → ((convert 22 9 (.slice A6 size size)).run Try.prog W = .ok (.string ⟨pc.toArray⟩) W ∧ (convert 22 9 (.slice (some (ad.add a)) size (N - a))).run Try.prog W = .ok (.string ⟨pc.toArray⟩) W) from fun W hW =>
          ⟨arr_conv (n := size) (c := size) (l := pc) ((G6.out.1.upd G7.2.2 (fun _ _ h => h)).upd hW (fun _ _ h => h)), HSB.out W ((G6.out.2.2.trans G7.2.2 (fun _ _ h => h)).trans hW (fun _ _ h => h)) q3⟩)
        dsimp only [List.length_nil]
        clear G6 G7 HA2 HSB HF5 HA1
        go_upto_region 17 with fail
        obtain ⟨sx, sy⟩ := HS.out _ ((Upd.refl w7).drew)
        have z0 : (0 : Int) ≤ (a : Int) := by omega
        have z1 : (a : Int) ≤ (a : Int) + (size : Int) := by omega
        have z2 : (0 : Int) ≤ (a : Int) + (size : Int) := by omega
        have z3 : IntKind.i64.wrap ((a : Int) + (size : Int)) = (a : Int) + (size : Int) := by rw [IntKind.wrap_i64]; omega
        have z4 : ((a : Int) + (size : Int)).toNat = a + size := by omega
        have z5 : ¬ N = a := by omega
        have z6 : ¬ N - a = 0 := by omega
        have z7 : ¬ a = N := by omega
        have z8 : (size : Int) ≥ 0 := by omega
        go_region_held3 (fun W => (convert 22 9 (.slice A6 size size)).run Try.prog W = .ok (.string ⟨pc.toArray⟩) W ∧ (convert 22 9 (.slice (some (ad.add a)) size (N - a))).run Try.prog W = .ok (.string ⟨pc.toArray⟩) W) (first | exact HS.out _ ((Upd.refl w7).drew) | exact HS.out _ F9.out | go_keep)
          (first
            | (go_at_call 8
               refine (awake_any _).mono ?_
               rintro e w9 ⟨rfl, h9⟩
               have F9 := Lib.hid (((Upd.refl w7).drew).trans h9 (fun _ _ h => h))
               clear h9))
        go_wp2_with fail
        go_ret
        exact ⟨rfl, F7.out.trans F9.out (fun _ _ h => h)⟩
end Go.Proofs.Ytiiolpchefldlaa
