import Derived.Test.YtdflbfkdegkboaaPl
import Derived.Deep.CutBlock
namespace Go.Proofs.Ytdflbfkdegkboaa
open Go.RowKit

set_option maxHeartbeats 4000000 in
set_option maxRecDepth 100000 in
theorem plays_any (mtu most : Int) (As : Option Addr) (m cs : Nat) (f : Nat → SOp) (w : World) (hs : OpsIn w As m f) (hm : m ≤ 9223372036854775807) :
    Calls Try.prog 4 #[.int .i64 mtu, .int .i64 most, .slice As m cs] w fun e w' => e = .returned (.bool true) ∧ Fresh w w' := by
  obtain ⟨i0, hi0, hz0, hz1, hz2⟩ := info_parts Try.info5
  have HS := Lib.hid hs
  clear hs
  by_cases hbad : mtu < 64 ∨ 1500 < mtu ∨ most < 1 ∨ 1000 < most
  · have HB := Lib.hid hbad
    clear hbad
    go_enter Try.func4, Try.ntmps4
    go_wp2_with fail
    refine (new_no mtu most w HB.out).mono ?_
    rintro e w1 ⟨rfl, rfl⟩
    go_wp2_with fail
    refine (rnew_no mtu most w HB.out).mono ?_
    rintro e w1 ⟨rfl, rfl⟩
    go_wp2_with fail
    refine (awake_any _).mono ?_
    rintro e w2 ⟨rfl, hf⟩
    have HF := Lib.hid hf
    clear hf
    go_wp2_with fail
    go_loopg [11] 0 (fun gk s11 wx => s11 = .int .i64 0 ∧ w2 = wx)
    case atStart => exact ⟨rfl, rfl⟩
    case round =>
      obtain ⟨rfl, rfl⟩ := hrel
      by_cases h0 : 0 < m
      · go_wp2_with fail
        go_ret
        exact ⟨rfl, HF.out⟩
      · go_wp2_with fail
        go_ret
        exact ⟨rfl, HF.out⟩
  · obtain ⟨M, rfl⟩ := Int.eq_ofNat_of_zero_le (show 0 ≤ mtu by omega)
    obtain ⟨K, rfl⟩ := Int.eq_ofNat_of_zero_le (show 0 ≤ most by omega)
    have hM1 : 64 ≤ M := by omega
    have hM2 : M ≤ 1500 := by omega
    have hK1 : 1 ≤ K := by omega
    have hK2 : K ≤ 1000 := by omega
    clear hbad
    go_enter Try.func4, Try.ntmps4
    go_wp2_with fail
    refine (new_yes M K w hM1 hM2 hK1 hK2).mono ?_
    rintro e w1 ⟨rfl, hn, hf⟩
    have H1 := Lib.hid (ON.mk hn hf (Nat.le_refl _) (AB.none_ w) : ON w w1 w.heap.size M K 0 [] none 0)
    generalize w.heap.size = g at H1 ⊢
    clear hn hf
    go_wp2_with fail
    refine (rnew_yes M K w1 hM1 hM2 hK1 hK2).mono ?_
    rintro e w2 ⟨rfl, hn, hf⟩
    have H2 : Hid (PB w w2 g w1.heap.size M K 0 [] none 0 none 0) := ⟨H1.out.fresh hf, ⟨hn.blk, hn.own, H1.out.fr.size, AB.none_ w⟩⟩
    generalize w1.heap.size = g2 at H2 ⊢
    clear hn hf H1
    go_wp2_with fail
    refine (awake_any _).mono ?_
    rintro e w3 ⟨rfl, u3⟩
    have H3 : Hid (PX w w3 g g2 M K 0) := ⟨0, [], none, 0, none, 0, Nat.le_refl _, Nat.le_refl _, H2.out.fresh u3⟩
    clear u3 H2
    go_wp2_with fail
    go_loopg [11] 80 (fun gk s11 wx => ∃ i : Nat, gk + i = 80 ∧ s11 = .int .i64 (i : Int) ∧ Hid (PX w wx g g2 M K i))
    case atStart => exact ⟨0, rfl, rfl, H3.out⟩
    case round =>
      clear H3
      obtain ⟨i, hgk, rfl, HX⟩ := hrel
      by_cases him : i < m
      · by_cases hi80 : i < 80
        · obtain ⟨lost, ds, A, c, A2, c2, hl, hd, HP⟩ := HX.out
          have HP := Lib.hid HP
          clear HX
          obtain ⟨sa, rfl, hsb, hcells⟩ := (HS.out.fresh HP.out.on.fr).at_ (by omega)
          obtain ⟨e0, e1, e2, e3, e4⟩ := hcells i him
          rw [add_far _ _ _ (by omega)] at e1 e2 e3 e4
          clear hcells
          obtain ⟨hr, hn, hb⟩ := HS.out.dat i
          have HRW := Lib.hid hr
          have HR := Lib.hid (hr.upd HP.out.on.fr (fun _ _ h => h))
          have HN := Lib.hid hn
          clear hr hn
          generalize hf : f i = o at e0 e1 e2 e3 e4 HR HRW HN hb
          clear hf
          obtain ⟨kd, ix, frm, to_, da, dc, b⟩ := o
          dsimp only at e0 e1 e2 e3 e4 HR HRW HN hb
          go_upto_region 9 with fail
          have HB := Lib.hid (Blk.new wr 39 #[.int .i64 kd, .int .i64 ix, .int .i64 frm, .int .i64 to_, .slice da b.length dc])
          have HP4 := Lib.hid (HP.out.fresh ((Upd.refl wr).alloc (.cells #[.int .i64 kd, .int .i64 ix, .int .i64 frm, .int .i64 to_, .slice da b.length dc] 39)))
          have HR4 := Lib.hid (HR.out.alloc (.cells #[.int .i64 kd, .int .i64 ix, .int .i64 frm, .int .i64 to_, .slice da b.length dc] 39))
          generalize wr.alloc (.cells #[.int .i64 kd, .int .i64 ix, .int .i64 frm, .int .i64 to_, .slice da b.length dc] 39) = w4 at HB HP4 HR4 ⊢
          generalize wr.heap.size = go at HB ⊢
          clear e0 e1 e2 e3 e4 HP HR hsb
          have o0 := HB.out.cell 0
          have o1 := HB.out.cell 1
          have o2 := HB.out.cell 2
          have o3 := HB.out.cell 3
          have o4 := HB.out.cell 4
          simp only [List.getElem?_toArray, List.getElem?_cons_zero, List.getElem?_cons_succ] at o0 o1 o2 o3 o4
          go_upto_block 2 with fail
          go_cut [13] (fun s13 wx => s13 = .bool true ∧ Hid (PX w wx g g2 M K (i + 1)))
          case first =>
            have hgo := HB.out.lt
            have HLD := Lib.hid (show lost ≤ i ∧ ds.length ≤ i from ⟨hl, hd⟩)
            have hlost : lost ≤ 1000000 := by omega
            have hdl : ds.length ≤ 1000000 := by omega
            by_cases hk0 : kd = 0
            · subst hk0
              as_aux_lemma =>
                go_upto_region 20 with (first
                  | (at_builtin
                     refine wpList_append_any _ rfl (.tmp 127) (.tmp 129) 29 rfl 5 i0 _ 1 1 Try.underlying29 hi0 hz0 hz1 hz2 rfl (by omega) (.slice (some ⟨w4.heap.size, 0, none⟩) 0 0) 0 [] rfl (World.ownsRow_lit w4 #[] 0 (Nat.zero_le _) (by unfold maxLen; omega) rfl) (fun _ => True) da b.length dc (bv b) rfl (HR4.out.alloc _) (bv_one _) (by unfold maxLen; omega) (by omega) ?_
                     intro A3 d3 w5 hown5 hg5 hat5
                     simp only [Nat.zero_add, List.nil_append] at hown5 hat5 ⊢
                     have hf5 : Fresh w4 w5 := ((Upd.refl w4).alloc _).grown hg5 (fun i hi hlt => by simp [Value.ownBlock] at hi; omega)
                     have HA5 := Lib.hid (Arr.of_own hown5)
                     have HN5 := Lib.hid (owns_none hown5)
                     have HAB := Lib.hid (show ∀ k, A3.map (·.block) = some k → w4.heap.size ≤ k by
                       intro k hk
                       rcases hat5 with h | h <;> rw [ownBlock_map, hk] at h
                       · simp [Value.ownBlock] at h; omega
                       · injection h with h; simp at h; omega)
                     have HP5 := Lib.hid (HP4.out.fresh hf5)
                     have HB5 := Lib.hid (HB.out.upd hf5 (fun h => h))
                     have HR5 := Lib.hid (HR4.out.upd hf5 (fun _ _ h => h))
                     clear hown5 hg5 hat5 hf5))
                go_cut [13] (fun s13 wx => s13 = .bool true ∧ Hid (SendPX w w5 wx g g2 M K i ds A3 b))
                case first =>
                  have p2 := HB5.out.cell 2
                  have p3 := HB5.out.cell 3
                  have p4 := HB5.out.cell 4
                  simp only [List.getElem?_toArray, List.getElem?_cons_zero, List.getElem?_cons_succ] at p2 p3 p4
                  have cv5 := conv_of (c := dc) HR5.out.drew
                  have hbl : b.length ≤ 9223372036854775807 := by omega
                  have hsc := sendC_rg M K ds frm to_ b
                  have hc1 := send_all (HP5.out.on.fresh ((Upd.refl w5).drew)) frm to_ A3 b d3 hK2 hM2 hlost hdl hbl ((HA5.out.upd ((Upd.refl w5).drew (F := fun _ => False)) (fun _ _ h => h)).reads) HN5.out
                  have hc2 := fun (w6 : World) (h6 : RT w w6 g2 M K lost (ds.map Dg.rg) A2 c2) (hz : w.heap.size ≤ w6.heap.size) => rsend_all h6 hz frm to_ ⟨b.toArray⟩ hK2 hlost
                  rw [hsc] at hc2
                  generalize sendC M K ds.length frm to_ b.length = sk at hc1 hc2
                  have HC1 := Lib.hid hc1
                  have HC2 := Lib.hid hc2
                  clear hc1 hc2 hsc o0 o1 o2 o3 o4 HB HP4 HR4
                  go_region_held3 (fun W => W.cell? ⟨go, 2, none⟩ = some (.int .i64 frm) ∧ W.cell? ⟨go, 3, none⟩ = some (.int .i64 to_) ∧ W.cell? ⟨go, 4, none⟩ = some (.slice da b.length dc) ∧ (convert 29 9 (.slice da b.length dc)).run Try.prog W = .ok (.string ⟨b.toArray⟩) W) (first | exact ⟨p2, p3, p4, cv5⟩ | exact ⟨q2, q3, q4, cv6⟩ | go_keep)
                    (first
                      | (go_at_call 8
                         refine HC1.out.mono ?_
                         rintro e w6 ⟨rfl, ds', A', c', h1, h2, h3, h4⟩
                         have hb6 := on_op (HP5.out.on.fresh ((Upd.refl w5).drew)) HB5.out.drew h4
                         have q2 := hb6.cell 2
                         have q3 := hb6.cell 3
                         have q4 := hb6.cell 4
                         simp only [List.getElem?_toArray, List.getElem?_cons_zero, List.getElem?_cons_succ] at q2 q3 q4
                         have cv6 := conv_of (c := dc) (HRW.out.upd h1.fr (fun _ _ h => h)))
                      | (go_at_call 13
                         have r0 := (HP5.out.fresh ((Upd.refl w5).drew)).left h4
                         refine (HC2.out w6 r0 h1.fr.size).mono ?_
                         rintro e w7 ⟨rfl, A2', c2', r1, r2⟩
                         have hb7 := rt_op r0 hb6 r2
                         have q2 := hb7.cell 2
                         have q3 := hb7.cell 3
                         have q4 := hb7.cell 4
                         simp only [List.getElem?_toArray, List.getElem?_cons_zero, List.getElem?_cons_succ] at q2 q3 q4
                         have cv6 := conv_of (c := dc) (HRW.out.upd (PB.right h1 r0 r2).fr (fun _ _ h => h))
                         skip))
                  all_goals
                    have hA6 := (HA5.out.keep ((Upd.refl w5).drew (F := fun _ => False)) (fun _ _ h => h.elim)).keep h4 (on_bytes (HP5.out.on.fresh ((Upd.refl w5).drew)))
                    have HE : SendPX w w5 w7 g g2 M K i ds A3 b := send_px HLD.out.1 HLD.out.2 h1 h2 h3 r0 r1 r2 hA6
                    have HE := Lib.hid HE
                    clear h1 h2 h3 h4 r0 r1 r2 hA6 hb6 hb7
                    go_wp2_with fail
                    go_meet
                    exact ⟨rfl, HE.out⟩
                obtain ⟨rfl, HE⟩ := hcut
                obtain ⟨lost', ds', A', c', A2', c2', k1, k2, k3, k4, k5⟩ := HE.out
                have HE5 := Lib.hid k5
                have HEP := Lib.hid k3
                have HED := Lib.hid k4
                have HEL := Lib.hid (show lost' ≤ i + 1 ∧ ds'.length ≤ i + 1 from ⟨k1, k2⟩)
                clear k1 k2 k3 k4 k5 HE o0 o1 o2 o3 o4
                go_wp2_with fail
                go_loopg [15] b.length (fun g2_ s15 wy => ∃ j : Nat, g2_ + j = b.length ∧ s15 = .int .i64 (j : Int) ∧ Hid (Scr wc wy A3 b.length))
                case atStart => exact ⟨0, by omega, rfl, Scr.start HE5.out⟩
                case round =>
                  obtain ⟨j, hgj, rfl, HSc⟩ := hrel
                  by_cases hj : j < b.length
                  · obtain ⟨ad, x, hA3, hcell, hfz, hstep⟩ := HSc.out.at_ hj
                    subst hA3
                    have HST := Lib.hid hstep
                    clear hstep
                    go_wp2_with fail
                    go_roundg (b.length - (j + 1))
                    case measure => omega
                    case rel => exact ⟨j + 1, by omega, by go_num, HST.out _⟩
                  · go_wp2_with fail
                    go_meet
                    exact ⟨rfl, _, _, _, _, _, _, HEL.out.1, HEL.out.2, PB.own HP4.out HEP.out HED.out HA5.out HE5.out HAB.out HSc.out⟩
            · by_cases hk1 : kd = 1
              · subst hk1
                as_aux_lemma =>
                  clear hk0
                  have hc1 := take_all HP4.out.on ix hdl
                  have hc2 := fun (w6 : World) (h6 : RT w w6 g2 M K lost (ds.map Dg.rg) A2 c2) (hz : w.heap.size ≤ w6.heap.size) => rtake_all h6 hz ix (by simpa using hdl)
                  simp only [List.length_map] at hc2
                  generalize ogR (ds.map Dg.rg) ix = r at hc1 hc2
                  generalize okR ds.length ix = kk at hc1 hc2
                  obtain ⟨rf, rt, rs⟩ := r
                  have HC1 := Lib.hid hc1
                  have HC2 := Lib.hid hc2
                  clear hc1 hc2
                  go_wp2_with fail
                  refine HC1.out.mono ?_
                  rintro e w5 ⟨B, rfl, ha, hab, h1, h4⟩
                  dsimp only at ha ⊢
                  have r0 := HP4.out.left h4
                  have hb5 := on_op HP4.out.on HB.out h4
                  have q1 := hb5.cell 1
                  simp only [List.getElem?_toArray, List.getElem?_cons_zero, List.getElem?_cons_succ] at q1
                  have H1 := Lib.hid h1
                  have H4 := Lib.hid h4
                  have R0 := Lib.hid r0
                  have HA := Lib.hid ha
                  clear h1 h4 r0 ha hab hb5 o0 o1 o2 o3 o4
                  go_wp2_with fail
                  refine (HC2.out w5 R0.out H1.out.fr.size).mono ?_
                  rintro e w6 ⟨rfl, A2', c2', r1, r2⟩
                  have HPN := Lib.hid (show PB w w6 g g2 M K lost (tkR ds ix) A c A2' c2' from ⟨PB.right H1.out R0.out r2, by rw [tk_map]; exact r1⟩)
                  have HA6 := Lib.hid (HA.out.keep r2 (rt_bytes R0.out))
                  clear r1 r2
                  unfold Rg.agg
                  dsimp only
                  go_upto_region 28 with fail
                  have sx := str_rg (c := rs.size) (HA6.out.upd ((Upd.refl w6).alloc (F := fun _ => False) (.cells #[.int .i64 rf, .int .i64 rt, .string rs] 42)) (fun _ _ h => h))
                  have HPM := Lib.hid (HPN.out.fresh ((Upd.refl w6).alloc (.cells #[.int .i64 rf, .int .i64 rt, .string rs] 42)))
                  go_wp2_with fail
                  go_meet
                  refine ⟨rfl, _, _, _, _, _, _, ?_, ?_, HPM.out⟩
                  · have := HLD.out; omega
                  · have := HLD.out; have := tkR_len ds ix; omega
              · by_cases hk2 : kd = 2
                · subst hk2
                  as_aux_lemma =>
                    clear hk0 hk1
                    have hc1 := twice_all (HP4.out.on.fresh ((Upd.refl w4).drew)) ix hK2
                    have hc2 := fun (w6 : World) (h6 : RT w w6 g2 M K lost (ds.map Dg.rg) A2 c2) (hz : w.heap.size ≤ w6.heap.size) => rtwice_all h6 hz ix hK2 (by simpa using hdl)
                    simp only [List.length_map] at hc2
                    generalize twK K ds.length ix = kk at hc1 hc2
                    have HC1 := Lib.hid hc1
                    have HC2 := Lib.hid hc2
                    clear hc1 hc2
                    have HX2 : Hid (twR K (ds.map Dg.rg) ix = (twR K ds ix).map Dg.rg) := (tw_map _ _ _ _).symm
                    go_upto_region 30 with fail
                    clear o0 o2 o3 o4
                    go_region_held3 (fun W => W.cell? ⟨go, 1, none⟩ = some (.int .i64 ix)) (first | exact o1 | exact q1 | go_keep)
                      (first
                        | (go_at_call 15
                           refine HC1.out.mono ?_
                           rintro e w6 ⟨rfl, A', c', h1, h4⟩
                           have hb6 := on_op (HP4.out.on.fresh ((Upd.refl w4).drew)) HB.out.drew h4
                           have q1 := hb6.cell 1
                           simp only [List.getElem?_toArray, List.getElem?_cons_zero, List.getElem?_cons_succ] at q1)
                        | (go_at_call 16
                           have r0 := (HP4.out.fresh ((Upd.refl w4).drew)).left h4
                           refine (HC2.out w6 r0 h1.fr.size).mono ?_
                           rintro e w7 ⟨rfl, A2', c2', r1, r2⟩
                           have hb7 := rt_op r0 hb6 r2
                           have q1 := hb7.cell 1
                           simp only [List.getElem?_toArray, List.getElem?_cons_zero, List.getElem?_cons_succ] at q1))
                    all_goals
                      have HPN := Lib.hid (show PB w w7 g g2 M K lost (twR K ds ix) A' c' A2' c2' from ⟨PB.right h1 r0 r2, by rw [← HX2.out]; exact r1⟩)
                      clear h1 h4 r0 r1 r2 hb6 hb7
                      go_wp2_with fail
                      go_meet
                      refine ⟨rfl, _, _, _, _, _, _, ?_, ?_, HPN.out⟩
                      · have := HLD.out; omega
                      · have := HLD.out; have := twR_len K ds ix; omega
                · have b0 : (kd == 0) = false := by simpa using hk0
                  as_aux_lemma =>
                    have b1 : (kd == 1) = false := by simpa using hk1
                    have b2 : (kd == 2) = false := by simpa using hk2
                    clear hk0 hk1 hk2
                    have hc1 := at_all HP4.out.on ix hdl
                    have hrs := og_le HP4.out.on ix
                    have hc2 := fun (w6 : World) (h6 : RT w w6 g2 M K lost (ds.map Dg.rg) A2 c2) => rat_all h6 ix (by simpa using hdl)
                    simp only [List.length_map] at hc2
                    generalize ogR (ds.map Dg.rg) ix = r at hc1 hc2 hrs
                    generalize okR ds.length ix = kk at hc1 hc2
                    obtain ⟨rf, rt, rs⟩ := r
                    dsimp only at hrs
                    have HC1 := Lib.hid hc1
                    have HC2 := Lib.hid hc2
                    clear hc1 hc2
                    go_wp2_with fail
                    refine HC1.out.mono ?_
                    rintro e w5 ⟨B, rfl, ha, hab, h4⟩
                    dsimp only at ha ⊢
                    have hb5 := HB.out.upd h4 (fun h => h)
                    have q1 := hb5.cell 1
                    simp only [List.getElem?_toArray, List.getElem?_cons_zero, List.getElem?_cons_succ] at q1
                    have HP5 := Lib.hid (HP4.out.fresh h4)
                    have HA := Lib.hid ha
                    have HAB := Lib.hid hab
                    clear h4 ha hab hb5 o0 o1 o2 o3 o4
                    go_wp2_with fail
                    refine (HC2.out w5 HP5.out.rt).mono ?_
                    rintro e w6 ⟨rfl, r2⟩
                    have HP6 := Lib.hid (HP5.out.fresh r2)
                    have HA6 := Lib.hid (HA.out.upd r2 (fun _ _ h => h))
                    clear r2
                    unfold Rg.agg
                    dsimp only
                    go_upto_region 13 with fail
                    have sx := str_rg (c := rs.size) (HA6.out.upd ((Upd.refl w6).alloc (F := fun _ => False) (.cells #[.int .i64 rf, .int .i64 rt, .string rs] 42)) (fun _ _ h => h))
                    have HA7 := Lib.hid (HA6.out.upd ((Upd.refl w6).alloc (F := fun _ => False) (.cells #[.int .i64 rf, .int .i64 rt, .string rs] 42)) (fun _ _ h => h))
                    have HP7 := Lib.hid (HP6.out.fresh ((Upd.refl w6).alloc (.cells #[.int .i64 rf, .int .i64 rt, .string rs] 42)))
                    go_upto_region 15 with fail
                    generalize w6.alloc (.cells #[.int .i64 rf, .int .i64 rt, .string rs] 42) = w7 at HA7 HP7 ⊢
                    go_loopg [28] rs.size (fun g2_ s28 wy => ∃ j : Nat, g2_ + j = rs.size ∧ s28 = .int .i64 (j : Int) ∧ Hid (Scr w7 wy B rs.size))
                    case atStart => exact ⟨0, by omega, rfl, Scr.start HA7.out⟩
                    case round =>
                      obtain ⟨j, hgj, rfl, HSc⟩ := hrel
                      by_cases hj : j < rs.size
                      · obtain ⟨ad, x, hA3, hcell, hfz, hstep⟩ := HSc.out.at_ hj
                        subst hA3
                        have HST := Lib.hid hstep
                        clear hstep
                        go_wp2_with fail
                        go_roundg (rs.size - (j + 1))
                        case measure => omega
                        case rel => exact ⟨j + 1, by omega, by go_num, HST.out _⟩
                      · go_wp2_with fail
                        go_meet
                        refine ⟨rfl, _, _, _, _, _, _, ?_, ?_, PB.own HP4.out HP7.out (fun d hd => .inl hd) HA7.out HA7.out HAB.out HSc.out⟩
                        · have := HLD.out; omega
                        · have := HLD.out; omega
          obtain ⟨rfl, HX⟩ := hcut
          go_upto_region 31 with fail
          as_aux_lemma =>
            obtain ⟨lost', ds', A', c', A2', c2', k1, k2, k3⟩ := HX.out
            have HT := Lib.hid k3
            have c2_ := k3.rt.blk.cell 2
            have c3_ := k3.rt.blk.cell 3
            simp only [List.getElem?_toArray, List.getElem?_cons_zero, List.getElem?_cons_succ, List.length_map] at c2_ c3_
            have b1 : ((ds'.length : Int) != (ds'.length : Int)) = false := by simp
            have b2 : ((lost' : Int) != (lost' : Int)) = false := by simp
            have HK := Lib.hid (show lost' ≤ i + 1 ∧ ds'.length ≤ i + 1 from ⟨k1, k2⟩)
            clear k1 k2 k3 HX o0 o1 o2 o3 o4 HB HP4 HR4
            go_quiet ((first | (go_at_call 7; exact len_q HT.out) | (go_at_call 10; exact lost_q HT.out)))
            go_wp2_with fail
            go_roundg (80 - (i + 1))
            case measure => omega
            case rel => exact ⟨i + 1, by omega, by go_num, _, _, _, _, _, _, HK.out.1, HK.out.2, HT.out.fresh ((Upd.refl _).drewN _)⟩
        · obtain ⟨lost, ds, A, c, A2, c2, hl, hd, HP⟩ := HX.out
          have HF := Lib.hid HP.on.fr
          clear HP HX
          go_wp2_with fail
          go_ret
          exact ⟨rfl, HF.out⟩
      · obtain ⟨lost, ds, A, c, A2, c2, hl, hd, HP⟩ := HX.out
        have HF := Lib.hid HP.on.fr
        clear HP HX
        go_wp2_with fail
        go_ret
        exact ⟨rfl, HF.out⟩
end Go.Proofs.Ytdflbfkdegkboaa
