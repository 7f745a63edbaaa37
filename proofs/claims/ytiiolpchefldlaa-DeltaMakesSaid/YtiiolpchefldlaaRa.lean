import Derived.Test.YtiiolpchefldlaaAp
import Derived.Test.YtiiolpchefldlaaFd
import Derived.Test.YtiiolpchefldlaaPs
namespace Go.Proofs.Ytiiolpchefldlaa
open Go.RowKit

/-! ### The document's Apply -/
theorem numDS_len (b : List UInt8) : (numDS b).2.1.length ≤ b.length := numD_rest b 5 0 0 b
theorem rsizes_rest (b : List UInt8) (h : (sizesS b).2.2.2 = 0) : (rsizesS b).2.2.1 ≤ b.length ∧ b.drop (rsizesS b).2.2.1 = (sizesS b).2.2.1 := by
  have h1 := numDS_len b
  have h2 := numDS_len (numDS b).2.1
  by_cases e1 : (numDS b).2.2 = 0
  · have hd := numDS_drop b e1
    have hr1 : (rnumS b).2.1 = b.length - (numDS b).2.1.length := by unfold rnumS; rw [if_pos e1]
    have hr2 : (rnumS b).2.2 = 0 := e1
    by_cases e2 : (numDS (numDS b).2.1).2.2 = 0
    · have hd2 := numDS_drop (numDS b).2.1 e2
      have hq1 : (rnumS (numDS b).2.1).2.1 = (numDS b).2.1.length - (numDS (numDS b).2.1).2.1.length := by unfold rnumS; rw [if_pos e2]
      have hq2 : (rnumS (numDS b).2.1).2.2 = 0 := e2
      have hu : (rsizesS b).2.2.1 = (b.length - (numDS b).2.1.length) + ((numDS b).2.1.length - (numDS (numDS b).2.1).2.1.length) := by
        unfold rsizesS
        rw [if_neg (fun h => h hr2), hr1, hd, if_neg (fun h => h hq2), hq1]
      have hs : (sizesS b).2.2.1 = (numDS (numDS b).2.1).2.1 := by
        unfold sizesS
        rw [if_neg (fun h => h e1), if_neg (fun h => h e2)]
      rw [hu, hs]
      refine ⟨by omega, ?_⟩
      rw [← List.drop_drop, hd, hd2]
    · unfold sizesS at h
      rw [if_neg (fun h => h e1), if_pos e2] at h
      exact absurd h e2
  · unfold sizesS at h
    rw [if_pos e1] at h
    exact absurd h e1
theorem Own.rebase {w w1 w2 : World} {A : Option Addr} {c : Nat} {b : List UInt8} (h : Own w1 w2 A c b) (hf : Fresh w w1) : Own w w2 A c b := ⟨h.own, fun k hk => Nat.le_trans hf.size (h.ab k hk), hf.trans h.fr (fun _ _ h => h)⟩
def RApplyO (r : List UInt8 × Nat) (w : World) (e : Ending) (w' : World) : Prop := ∃ A c, e = .returned (.tuple #[.slice A r.1.length c, .int .i64 (r.2 : Int)]) ∧ Own w w' A c r.1
theorem i64_low4 (x : Nat) : bits .and .i64 (x : Int) 15 = ((x % 16 : Nat) : Int) := by
  have := i64_mask (x : Int) 4 (by decide)
  simp only [show (2 : Int) ^ 4 - 1 = 15 by decide] at this
  rw [this]
  omega
theorem i64_low3 (x : Nat) : bits .and .i64 (x : Int) 7 = ((x % 8 : Nat) : Int) := by
  have := i64_mask (x : Int) 3 (by decide)
  simp only [show (2 : Int) ^ 3 - 1 = 7 by decide] at this
  rw [this]
  omega
set_option maxHeartbeats 6400000 in
set_option maxRecDepth 100000 in
theorem rapply_o {Ab Ad : Option Addr} {cb cd : Nat} {base d : List UInt8} {w : World} {bound : Int} (hb : Sl w Ab base cb) (hd : Sl w Ad d cd) (hx1 : -9223372036854775808 ≤ bound) (hx2 : bound ≤ 9223372036854775807) :
    Calls Try.prog 15 #[.slice Ab base.length cb, .slice Ad d.length cd, .int .i64 bound] w (RApplyO (applyS base d bound.toNat) w) := by
  obtain ⟨i0, hi0, hz0, hz1, hz2⟩ := info_parts Try.info5
  have H1 := Lib.hid (rsizes_o hd)
  have HB := Lib.hid hb
  have HD := Lib.hid hd
  have hbc := hb.le
  have hbm := hb.cm
  have hdc := hd.le
  have hdm := hd.cm
  have hto := sizesS_le d
  have hsm := sizes_same d
  have hrr := Lib.hid (rsizes_rest d)
  unfold applyS
  clear hd hb
  generalize sizesS d = r at hto hsm hrr
  obtain ⟨from_, tn, d1, e0⟩ := r
  generalize rsizesS d = r at H1 hsm hrr
  obtain ⟨f2, t2, used, e2⟩ := r
  dsimp only at H1 hto hsm hrr ⊢
  obtain ⟨rfl, rfl, rfl⟩ := hsm
  obtain ⟨nb, hnb⟩ : ∃ nb, bound.toNat = nb := ⟨_, rfl⟩
  rw [hnb]
  obtain ⟨R, hR⟩ : ∃ R : List UInt8 × Nat, (if e2 ≠ 0 then ([], e2) else if f2 ≠ base.length then ([], 3) else if nb < t2 then ([], 5) else runD base t2 (d1.length + 1) [] d1) = R := ⟨_, rfl⟩
  rw [hR]
  have HR := Lib.hid hR
  clear hR
  go_enter Try.func15, Try.ntmps15
  go_wp2_with fail
  refine H1.out.mono ?_
  rintro e w1 ⟨rfl, F1⟩
  replace F1 := Lib.hid F1
  go_upto_region 2 with fail
  have HBk := Lib.hid (Blk.new w1 37 #[.int .i64 (f2 : Int), .int .i64 (t2 : Int), .int .i64 (used : Int), .int .i64 (e2 : Int)])
  have FH := Lib.hid (F1.out.alloc (.cells #[.int .i64 (f2 : Int), .int .i64 (t2 : Int), .int .i64 (used : Int), .int .i64 (e2 : Int)] 37))
  generalize w1.alloc (.cells #[.int .i64 (f2 : Int), .int .i64 (t2 : Int), .int .i64 (used : Int), .int .i64 (e2 : Int)] 37) = wH at HBk FH ⊢
  generalize w1.heap.size = g at HBk ⊢
  have hcell := Lib.hid (show ∀ W, Fresh wH W → (W.cell? ⟨g, 0, none⟩ = some (.int .i64 (f2 : Int)) ∧ W.cell? ⟨g, 1, none⟩ = some (.int .i64 (t2 : Int)) ∧ W.cell? ⟨g, 2, none⟩ = some (.int .i64 (used : Int)) ∧ W.cell? ⟨g, 3, none⟩ = some (.int .i64 (e2 : Int))) from fun W hW => by
    have hb := HBk.out.upd hW (fun h => h)
    have c0 := hb.cell 0
    have c1 := hb.cell 1
    have c2 := hb.cell 2
    have c3 := hb.cell 3
    simp only [List.getElem?_toArray, List.getElem?_cons_zero, List.getElem?_cons_succ] at c0 c1 c2 c3
    exact ⟨c0, c1, c2, c3⟩)
  obtain ⟨c0, c1, c2, c3⟩ := hcell.out wH (Upd.refl wH)
  replace HB := Lib.hid (HB.out.fresh FH.out)
  replace HD := Lib.hid (HD.out.fresh FH.out)
  clear HBk F1 H1
  by_cases he : e2 = 0
  · subst he
    obtain ⟨hu1, hu2⟩ := hrr.out rfl
    clear hrr
    by_cases hf : f2 = base.length
    · subst hf
      obtain ⟨B, hB⟩ : ∃ B, decide (nb < t2) = B := ⟨_, rfl⟩
      go_upto_region 6 with fail
      go_cut [30] (fun s wx => s = .bool B ∧ wH = wx)
      case first =>
        rcases (show (bound < 0 ∧ nb = 0) ∨ (0 ≤ bound ∧ bound = (nb : Int)) by omega) with ⟨h, e⟩ | ⟨h, e⟩
        · subst e
          go_wp2_with fail
          go_meet
          exact ⟨by first | rfl | (rw [← hB]; simp), rfl⟩
        · subst e
          go_wp2_with fail
          go_meet
          exact ⟨by first | rfl | (rw [← hB]; simp), rfl⟩
      obtain ⟨rfl, rfl⟩ := hcut
      clear hnb hx1 hx2
      rcases B with _ | _
      rotate_left
      · have hbig := of_decide_eq_true hB
        clear hB
        go_wp2_with fail
        go_ret2
        have hR := HR.out
        rw [if_neg (by simp), if_neg (by simp), if_pos hbig] at hR
        rw [← hR]
        exact ⟨none, 0, rfl, Own.nil FH.out⟩
      · have hbig := of_decide_eq_false hB
        clear hB
        replace HR := Lib.hid (show runD base t2 (d1.length + 1) [] d1 = R by
          have hR := HR.out
          rwa [if_neg (by simp), if_neg (by simp), if_neg hbig] at hR)
        clear hbig
        go_upto_region 9 with fail
        have HO0 := Lib.hid (show Own wH (wH.alloc (.cells #[] 5)) (some ⟨wH.heap.size, 0, none⟩) 0 [] from
          ⟨World.ownsRow_made wH #[] 0 (Nat.zero_le _) (Nat.zero_le _) rfl, fun k hk => by simp at hk; omega, (Upd.refl wH).alloc _⟩)
        generalize wH.alloc (.cells #[] 5) = wI at HO0 ⊢
        generalize (⟨wH.heap.size, 0, none⟩ : Addr) = aI at HO0 ⊢
        clear c0 c1 c2 c3
        obtain ⟨c0, c1, c2, c3⟩ := hcell.out wI HO0.out.fr
        go_cut [1] (fun s wx => ∃ A2 c2, s = .slice A2 d1.length c2 ∧ Hid (Sl wH A2 d1 c2) ∧ wI = wx)
        case first =>
          have hdl : d1.length = d.length - used := by rw [← hu2, List.length_drop]
          replace hdl := Lib.hid hdl
          rcases Ad with _ | ad
          · have hd0 : d = [] := List.eq_nil_of_length_eq_zero HD.out.rd.zero.1
            subst hd0
            obtain rfl := HD.out.nn rfl
            obtain rfl : used = 0 := by simpa using hu1
            obtain rfl : d1 = [] := by rw [← hu2]; rfl
            go_wp2_with fail
            go_meet
            exact ⟨none, 0, rfl, Sl.nil _, rfl⟩
          · have h2 := HD.out.from_ (k := used) hu1
            rw [hu2] at h2
            replace h2 := Lib.hid h2
            have z1 : (used : Int) ≤ (d.length : Int) := by omega
            have z2 : (d.length : Int) ≤ (cd : Int) := by omega
            by_cases hcu : cd = used
            · subst hcu
              go_wp2_with fail
              go_meet
              have hd1 : d1 = [] := List.eq_nil_of_length_eq_zero (by have := hdl.out; omega)
              subst hd1
              exact ⟨some ad, 0, rfl, ⟨⟨rfl, fun h => absurd h (by simp)⟩, Nat.le_refl _, by omega, fun h => by cases h⟩, rfl⟩
            · have z3 : (used : Int) < (cd : Int) := by omega
              go_wp2_with fail
              go_meet
              refine ⟨some (ad.add used), cd - used, by rw [hdl.out], ?_, rfl⟩
              have := h2.out
              rwa [if_neg hcu] at this
        obtain ⟨A1, c1', rfl, S1, rfl⟩ := hcut
        clear c0 c1 c2 c3 hu2 hu1 HD
        go_wp2_with fail
        go_loopg [1, 9] d1.length (fun gk s1 s9 wx => ∃ (A' Ao : Option Addr) (d' out : List UInt8) (c' co : Nat), gk = d'.length ∧ s1 = .slice A' d'.length c' ∧ s9 = .slice Ao out.length co ∧ Hid (ApAt wH wx base t2 R A' d' c' Ao co out))
        case atStart => exact ⟨A1, some aI, d1, [], c1', 0, rfl, rfl, rfl, S1.out, HO0.out, HR.out, Nat.zero_le _⟩
        case round =>
          obtain ⟨A', Ao, d', out, c', co, rfl, rfl, rfl, HA⟩ := hrel
          have hol := HA.out.le
          obtain ⟨-, c1, -, -⟩ := hcell.out wr HA.out.own.fr
          rcases d' with _ | ⟨x, t⟩
          · have HX := Lib.hid HA.out.last
            by_cases hlt : out.length < t2
            · replace HX := Lib.hid (HX.out.trans (if_pos hlt))
              go_wp2_with fail
              go_ret2
              rw [HX.out]
              exact ⟨none, 0, rfl, Own.nil (FH.out.trans HA.out.own.fr (fun _ _ h => h))⟩
            · replace HX := Lib.hid (HX.out.trans (if_neg hlt))
              have hge : (t2 : Int) ≤ (out.length : Int) := by omega
              go_wp2_with fail
              go_ret2
              rw [HX.out]
              exact ⟨Ao, co, rfl, HA.out.own.rebase FH.out⟩
          · obtain ⟨ad, rfl, hc⟩ := (HA.out.sl.fresh HA.out.own.fr).head
            have HNA := Lib.hid (show c' = 1 → Sl wH (some ad) t 0 from fun e => by
              have := HA.out.sl.next
              rwa [if_pos e, show c' - 1 = 0 by omega] at this)
            have HNB := Lib.hid (show ¬ c' = 1 → Sl wH (some ⟨ad.block, ad.off + 1, none⟩) t (c' - 1) from fun e => by
              have := HA.out.sl.next
              rwa [if_neg e] at this)
            have hcp := HA.out.sl.le
            have hcm := HA.out.sl.cm
            have hxl : x.toNat < 256 := x.toNat_lt
            rw [List.length_cons] at hcp
            go_upto_region 12 with fail
            go_cut [1] (fun s wx => ∃ A2 c2, s = .slice A2 t.length c2 ∧ Hid (Sl wH A2 t c2) ∧ wr = wx)
            case first =>
              go_wp2_with fail
              all_goals go_meet
              all_goals first
                | exact ⟨some ad, 0, by simp, HNA.out (by assumption), rfl⟩
                | exact ⟨some ⟨ad.block, ad.off + 1, none⟩, c' - 1, by simp, HNB.out (by assumption), rfl⟩
            obtain ⟨A2, c2, rfl, S2, rfl⟩ := hcut
            clear hc HNA HNB hcp hcm
            have HO := Lib.hid HA.out.own
            have hc2 := S2.out.le
            have hm2 := S2.out.cm
            by_cases hx : 128 ≤ x.toNat
            · have hxI : (128 : Int) ≤ (x.toNat : Int) := by omega
              have hx0 : ((x.toNat : Int) == 0) = false := by rw [beq_eq_false_iff_ne]; omega
              have hlow := i64_low4 x.toNat
              have hhi : bits .and .i64 ((x.toNat : Int) / 16) 7 = ((x.toNat / 16 % 8 : Nat) : Int) := by
                have := i64_low3 (x.toNat / 16)
                rw [← this]
                congr 1
              have hpf := place_fields x.toNat t
              have HP1 := Lib.hid (show Calls Try.prog 24 #[.slice A2 t.length c2, .int .i64 ((x.toNat % 16 : Nat) : Int), .int .i64 4] wr (FieldO wH (fieldS 4 (x.toNat % 16) t) wr) from field_o (n := 4) S2.out HO.out.fr (show x.toNat % 16 < 256 by omega) (by omega))
              rcases hp1 : fieldS 4 (x.toNat % 16) t with _ | ⟨off, r1⟩
              · rw [hp1] at hpf HP1
                dsimp only at hpf
                have HX := Lib.hid (HA.out.bad (e := 4) (by rw [stepS, if_pos hx, hpf]) (by decide))
                clear hp1 hpf hxl
                generalize x.toNat % 16 = y at hlow HP1
                go_wp2_with fail
                refine HP1.out.mono ?_
                rintro e w2 ⟨F2, rfl⟩
                go_wp2_with fail
                go_ret2
                rw [HX.out]
                exact ⟨none, 0, rfl, Own.nil (FH.out.trans (HO.out.fr.trans F2 (fun _ _ h => h)) (fun _ _ h => h))⟩
              · rw [hp1] at hpf HP1
                dsimp only at hpf
                have HP2 := Lib.hid (fun (w9 : World) (A9 : Option Addr) (c9 : Nat) (h9 : Sl wH A9 r1 c9) (f9 : Fresh wH w9) => (show Calls Try.prog 24 #[.slice A9 r1.length c9, .int .i64 ((x.toNat / 16 % 8 : Nat) : Int), .int .i64 3] w9 (FieldO wH (fieldS 3 (x.toNat / 16 % 8) r1) w9) from field_o (n := 3) h9 f9 (show x.toNat / 16 % 8 < 256 by omega) (by omega)))
                rcases hp2 : fieldS 3 (x.toNat / 16 % 8) r1 with _ | ⟨sz, r⟩
                · rw [hp2] at hpf HP2
                  dsimp only at hpf
                  have HX := Lib.hid (HA.out.bad (e := 4) (by rw [stepS, if_pos hx, hpf]) (by decide))
                  clear hp1 hp2 hpf hxl
                  generalize x.toNat % 16 = y at hlow HP1
                  generalize x.toNat / 16 % 8 = y2 at hhi HP2
                  go_wp2_with fail
                  refine HP1.out.mono ?_
                  rintro e w2 ⟨F2, Ar, cr, rfl, Sr⟩
                  replace F2 := Lib.hid (HO.out.fr.trans F2 (fun _ _ h => h))
                  go_wp2_with fail
                  refine (HP2.out w2 Ar cr Sr F2.out).mono ?_
                  rintro e w3 ⟨F3, rfl⟩
                  go_wp2_with fail
                  go_ret2
                  rw [HX.out]
                  exact ⟨none, 0, rfl, Own.nil (FH.out.trans (F2.out.trans F3 (fun _ _ h => h)) (fun _ _ h => h))⟩
                · rw [hp2] at hpf HP2
                  dsimp only at hpf
                  obtain ⟨n, hn⟩ : ∃ n, (if sz = 0 then 65536 else sz) = n := ⟨_, rfl⟩
                  rw [hn] at hpf
                  obtain ⟨p1, p2, p3, p4⟩ := placeS_some hpf
                  have hst : stepS base t2 out x t = if base.length < off ∨ base.length - off < n ∨ t2 - out.length < n then (3, [], []) else (0, out ++ (base.drop off).take n, r) := by
                    rw [stepS, if_pos hx, hpf]
                  have HXb := Lib.hid (fun (h : base.length < off ∨ base.length - off < n ∨ t2 - out.length < n) => HA.out.bad (e := 3) (by rw [hst, if_pos h]) (by decide))
                  have HXs := Lib.hid (fun (h : ¬ (base.length < off ∨ base.length - off < n ∨ t2 - out.length < n)) => HA.out.step (o2 := out ++ (base.drop off).take n) (d2 := r) (by rw [hst, if_neg h]))
                  clear hp1 hp2 hpf hxl hst
                  generalize x.toNat % 16 = y at hlow HP1
                  generalize x.toNat / 16 % 8 = y2 at hhi HP2
                  go_upto_region 16 with fail
                  refine HP1.out.mono ?_
                  rintro e w2 ⟨F2, Ar, cr, rfl, Sr⟩
                  replace HO := Lib.hid (HO.out.fresh F2)
                  clear F2 HA
                  go_wp2_with fail
                  refine (HP2.out w2 Ar cr Sr HO.out.fr).mono ?_
                  rintro e w3 ⟨F3, A3, c3, rfl, S3⟩
                  replace HO := Lib.hid (HO.out.fresh F3)
                  replace S3 := Lib.hid S3
                  clear F3 Sr HP1 HP2 c1
                  obtain ⟨-, c1, -, -⟩ := hcell.out w3 HO.out.fr
                  go_upto_if 73 with fail
                  go_cut [14] (fun s wx => s = .int .i64 (n : Int) ∧ w3 = wx)
                  case first =>
                    by_cases hsz : sz = 0
                    · subst hsz
                      rw [if_pos rfl] at hn
                      subst hn
                      go_wp2_with fail
                      go_meet
                      exact ⟨rfl, rfl⟩
                    · rw [if_neg hsz] at hn
                      subst hn
                      have h1 : ((sz : Int) == 0) = false := by simpa using hsz
                      go_wp2_with fail
                      go_meet
                      exact ⟨rfl, rfl⟩
                  obtain ⟨rfl, rfl⟩ := hcut
                  clear hn
                  by_cases hbad : base.length < off ∨ base.length - off < n ∨ t2 - out.length < n
                  · have HX := Lib.hid (HXb.out hbad)
                    rcases (show (base.length : Int) < (off : Int) ∨ ((off : Int) ≤ (base.length : Int) ∧ (base.length : Int) - (off : Int) < (n : Int)) ∨ ((off : Int) ≤ (base.length : Int) ∧ (n : Int) ≤ (base.length : Int) - (off : Int) ∧ (t2 : Int) - (out.length : Int) < (n : Int)) by omega) with q1 | ⟨q1, q2⟩ | ⟨q1, q2, q3⟩
                    all_goals
                      clear hbad
                      go_wp2_with fail
                      go_ret2
                      rw [HX.out]
                      exact ⟨none, 0, rfl, Own.nil (FH.out.trans HO.out.fr (fun _ _ h => h))⟩
                  · have HX := Lib.hid (HXs.out hbad)
                    have q1 : (off : Int) ≤ (base.length : Int) := by omega
                    have q2 : (n : Int) ≤ (base.length : Int) - (off : Int) := by omega
                    have q3 : (n : Int) ≤ (t2 : Int) - (out.length : Int) := by omega
                    have q4 : (off : Int) < (cb : Int) := by omega
                    have q5 : (off : Int) + (n : Int) ≤ (cb : Int) := by omega
                    obtain ⟨adb, rfl, -⟩ := HB.out.rd.2 (by omega)
                    have hpl : ((base.drop off).take n).length = n := by rw [List.length_take, List.length_drop]; omega
                    have HSB := Lib.hid (sub_bytes (HB.out.fresh HO.out.fr).rd off n (by omega))
                    clear HXb HXs
                    generalize (base.drop off).take n = p at HX HSB hpl
                    subst hpl
                    clear hbad
                    go_upto_region 24 with fail
                    go_wp2_with (first
                      | (at_builtin
                         refine wpList_append_any _ rfl (.tmp 95) (.tmp 101) 22 rfl 5 i0 _ 1 1 Try.underlying22 hi0 hz0 hz1 hz2 rfl (by omega) (.slice Ao out.length co) out.length (bv out) rfl HO.out.own (fun _ => True) _ (off + p.length - off) _ (bv p) rfl (by rw [Nat.add_sub_cancel_left]; exact HSB.out) (bv_one _) (by unfold maxLen; omega) (by omega) ?_
                         rw [Nat.add_sub_cancel_left]
                         intro A5 d5 w5 hown5 hg5 hat5
                         have HT5 := Lib.hid (HO.out.app (Upd.refl _) hown5 (by rw [List.length_append]) hg5 hat5)
                         clear hown5 hg5 hat5))
                    go_roundg r.length
                    case measure => have := HX.out.2.2; first | omega | (rw [List.length_cons]; omega)
                    case rel => exact ⟨A3, A5, r, out ++ p, c3, d5, rfl, by simp, by simp, S3.out, HT5.out, HX.out.1, HX.out.2.1⟩
            · have hxI : (x.toNat : Int) < 128 := by omega
              by_cases hbad : x.toNat = 0 ∨ t2 - out.length < x.toNat
              · have HX := Lib.hid (HA.out.bad (e := 3) (by rw [stepS, if_neg hx, if_pos hbad]) (by decide))
                rcases (show (x.toNat : Int) = 0 ∨ (1 ≤ (x.toNat : Int) ∧ (t2 : Int) - (out.length : Int) < (x.toNat : Int)) by omega) with q1 | ⟨q1, q2⟩
                · clear hbad
                  go_wp2_with fail
                  go_ret2
                  rw [HX.out]
                  exact ⟨none, 0, rfl, Own.nil (FH.out.trans HO.out.fr (fun _ _ h => h))⟩
                · have q0 : ((x.toNat : Int) == 0) = false := by rw [beq_eq_false_iff_ne]; omega
                  clear hbad
                  go_wp2_with fail
                  go_ret2
                  rw [HX.out]
                  exact ⟨none, 0, rfl, Own.nil (FH.out.trans HO.out.fr (fun _ _ h => h))⟩
              · have q1 : 1 ≤ (x.toNat : Int) := by omega
                have q0 : ((x.toNat : Int) == 0) = false := by rw [beq_eq_false_iff_ne]; omega
                have q2 : (x.toNat : Int) ≤ (t2 : Int) - (out.length : Int) := by omega
                by_cases hsh : t.length < x.toNat
                · have HX := Lib.hid (HA.out.bad (e := 4) (by rw [stepS, if_neg hx, if_neg hbad, if_pos hsh]) (by decide))
                  have q3 : (t.length : Int) < (x.toNat : Int) := by omega
                  clear hbad hsh
                  go_wp2_with fail
                  go_ret2
                  rw [HX.out]
                  exact ⟨none, 0, rfl, Own.nil (FH.out.trans HO.out.fr (fun _ _ h => h))⟩
                · have HX := Lib.hid (HA.out.step (o2 := out ++ t.take x.toNat) (d2 := t.drop x.toNat) (by rw [stepS, if_neg hx, if_neg hbad, if_neg hsh]))
                  have q3 : (x.toNat : Int) ≤ (t.length : Int) := by omega
                  have q4 : (t.length : Int) ≤ (c2 : Int) := by omega
                  obtain ⟨a2, rfl, -⟩ := S2.out.rd.2 (by omega)
                  have hpl : (t.take x.toNat).length = x.toNat := by rw [List.length_take]; omega
                  have hdl : (t.drop x.toNat).length = t.length - x.toNat := List.length_drop
                  have HSB := Lib.hid (show Reads wr (fun _ => True) 1 (some a2) x.toNat (bv (t.take x.toNat)) by
                    have := sub_bytes (S2.out.fresh HO.out.fr).rd 0 x.toNat (by omega)
                    rwa [List.drop_zero, hpl, show a2.add 0 = a2 from rfl] at this)
                  have HNX := Lib.hid (S2.out.from_ (k := x.toNat) (by omega))
                  have HNA := Lib.hid (show c2 = x.toNat → Sl wH (some a2) (t.drop x.toNat) 0 from fun e => by
                    have := HNX.out
                    rwa [if_pos e, show c2 - x.toNat = 0 by omega] at this)
                  have HNB := Lib.hid (show ¬ c2 = x.toNat → Sl wH (some (a2.add x.toNat)) (t.drop x.toNat) (c2 - x.toNat) from fun e => by
                    have := HNX.out
                    rwa [if_neg e] at this)
                  clear HNX
                  generalize t.take x.toNat = p at HX HSB hpl
                  generalize t.drop x.toNat = r at HX HNA HNB hdl
                  clear hbad hsh HA
                  have hpl := Lib.hid hpl
                  have hdl := Lib.hid hdl
                  go_upto_region 32 with fail
                  go_wp2_with (first
                    | (at_builtin
                       refine wpList_append_any _ rfl (.tmp 120) (.tmp 123) 22 rfl 5 i0 _ 1 1 Try.underlying22 hi0 hz0 hz1 hz2 rfl (by omega) (.slice Ao out.length co) out.length (bv out) rfl HO.out.own (fun _ => True) _ x.toNat _ (bv p) rfl HSB.out (bv_one _) (by unfold maxLen; omega) (by omega) ?_
                       intro A5 d5 w5 hown5 hg5 hat5
                       have HT5 := Lib.hid (HO.out.app (Upd.refl _) hown5 (by rw [List.length_append, hpl.out]) hg5 hat5)
                       clear hown5 hg5 hat5))
                  all_goals
                    go_roundg r.length
                    case measure => have := HX.out.2.2; first | omega | (rw [List.length_cons]; omega)
                    case rel => first
                      | exact ⟨some a2, A5, r, out ++ p, 0, d5, rfl, by rw [hdl.out], by rw [List.length_append, hpl.out], HNA.out (by assumption), HT5.out, HX.out.1, HX.out.2.1⟩
                      | exact ⟨some (a2.add x.toNat), A5, r, out ++ p, c2 - x.toNat, d5, rfl, by rw [hdl.out], by rw [List.length_append, hpl.out], HNB.out (by assumption), HT5.out, HX.out.1, HX.out.2.1⟩
    · have b2 : ((f2 : Int) == (base.length : Int)) = false := by rw [beq_eq_false_iff_ne]; omega
      go_wp2_with fail
      go_ret2
      have hR := HR.out
      rw [if_neg (by simp), if_pos hf] at hR
      rw [← hR]
      exact ⟨none, 0, rfl, Own.nil FH.out⟩
  · have b2 : ((e2 : Int) == 0) = false := by simpa using he
    obtain ⟨c0', c1', c2', c3'⟩ := hcell.out wH.drew ((Upd.refl wH).drew)
    go_upto_region 3 with fail
    go_quiet (fail)
    go_wp2_with fail
    go_ret2
    have hR := HR.out
    rw [if_pos he] at hR
    rw [← hR]
    exact ⟨none, 0, rfl, Own.nil (FH.out.drewN _)⟩
end Go.Proofs.Ytiiolpchefldlaa
