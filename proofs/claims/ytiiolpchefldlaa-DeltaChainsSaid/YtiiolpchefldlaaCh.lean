import Derived.Test.YtiiolpchefldlaaMo
import Derived.Test.YtiiolpchefldlaaCs
import Derived.BigQuiet
namespace Go.Proofs.Ytiiolpchefldlaa
open Go.RowKit

set_option maxHeartbeats 3200000 in
set_option maxRecDepth 100000 in
theorem chains_any {A : Option Addr} {n cap : Nat} {B : Nat → Option Addr} {l : Nat → List UInt8} {C : Nat → Nat} {w : World} {m : Int} (hl : Lns w A n B l C) (hn : n ≤ 9223372036854775807) (hm : w.cell? ⟨0, 0, none⟩ = some (.int .i64 m)) :
    Calls Try.prog 4 #[.slice A n cap] w fun e w' => e = .returned (.bool true) ∧ Fresh w w' := by
  have HL := Lib.hid hl
  have HM := Lib.hid (fun (w9 : World) (hf : Fresh w w9) => (hf.cell (World.block_lt_of_cell? w _ hm) (fun h => h)).trans hm)
  clear hl hm
  go_enter Try.func4, Try.ntmps4
  go_upto_region 3 with fail
  go_loopg [3, 4] n (fun gk s3 s4 wx => ∃ (i : Nat) (An : Option Addr) (cn : Nat) (now : List UInt8), gk + i = n ∧ s4 = .int .i64 (i : Int) ∧ s3 = .slice An now.length cn ∧ i ≤ 10 ∧ Hid (now = if i = 0 then [] else l (i - 1)) ∧ now.length ≤ 3000 ∧ Hid (Sl wx An now cn) ∧ Hid (Fresh w wx))
  case atStart => exact ⟨0, none, 0, [], rfl, rfl, rfl, by omega, rfl, by simp, Sl.nil w, Upd.refl w⟩
  case round =>
    obtain ⟨i, An, cn, now, hgk, rfl, rfl, hi10, HN, hnl, HS, HF⟩ := hrel
    obtain ⟨B0, hB⟩ : ∃ B0, decide (i < n ∧ i < 10) = B0 := ⟨_, rfl⟩
    go_upto_region 3 with fail
    go_cut [19] (fun s wx => s = .bool B0 ∧ wr = wx)
    case first =>
      obtain ⟨Z, hZ⟩ : ∃ Z : Int, (n : Int) = Z := ⟨_, rfl⟩
      by_cases g1 : i < n
      · have g3 : (i : Int) < Z := by omega
        by_cases g2 : i < 10
        · have e : B0 = true := by rw [← hB]; exact decide_eq_true ⟨g1, g2⟩
          clear hB
          subst e
          go_wp2_with fail
          go_meet
          exact ⟨congrArg Value.bool (decide_eq_true (by omega)), rfl⟩
        · have e : B0 = false := by rw [← hB]; exact decide_eq_false (fun h => g2 h.2)
          clear hB
          subst e
          go_wp2_with fail
          go_meet
          exact ⟨congrArg Value.bool (decide_eq_false (by omega)), rfl⟩
      · have g3 : ¬ (i : Int) < Z := by omega
        have e : B0 = false := by rw [← hB]; exact decide_eq_false (fun h => g1 h.1)
        clear hB
        subst e
        go_wp2_with fail
        go_meet
        exact ⟨rfl, rfl⟩
    obtain ⟨rfl, rfl⟩ := hcut
    rcases B0 with _ | _
    · clear hB
      go_wp2_with fail
      refine (awake_any _).mono ?_
      rintro e w9 ⟨rfl, F9⟩
      go_wp2_with fail
      go_ret
      exact ⟨rfl, HF.out.trans F9 (fun _ _ h => h)⟩
    · have hb2 := of_decide_eq_true hB
      clear hB
      have hin := hb2.1
      have hi9 := hb2.2
      clear hb2
      obtain ⟨ad, rfl⟩ := HL.out.nn (by omega)
      have HLr := HL.out.fresh HF.out
      have hc0 := HLr.cell ad rfl i hin
      have HT := Lib.hid (HLr.sl i hin)
      have HP := Lib.hid (fun (k : Nat) (h : k + 1 = i) (w9 : World) (h9 : Fresh wr w9) => (show w9.cell? (ad.add k) = some (.slice (B k) (l k).length (C k)) ∧ Sl w9 (B k) (l k) (C k) ∧ now = l k from ⟨(HLr.fresh h9).cell ad rfl k (by omega), (HLr.fresh h9).sl k (by omega), by have := HN.out; rw [if_neg (by omega), ← h] at this; exact this⟩))
      have HKeep := Lib.hid (fun (w9 : World) (h9 : Fresh wr w9) => ((HLr.fresh h9).cell ad rfl i hin))
      have HNext := Lib.hid (show l i = if i + 1 = 0 then [] else l (i + 1 - 1) from by simp)
      have HZ := Lib.hid (fun (h : i = 0) => (show now = [] from by have := HN.out; rwa [if_pos h] at this))
      clear HLr HN
      generalize hBi : B i = Bi at hc0 HT HKeep
      generalize hCi : C i = Ci at hc0 HT HKeep
      generalize hli : l i = li at hc0 HT HKeep HNext
      have htl := HT.out.le
      have htm := HT.out.cm
      replace hli := Lib.hid hli
      clear hBi hCi
      obtain ⟨B1, hB⟩ : ∃ B1, decide (3000 < li.length) = B1 := ⟨_, rfl⟩
      go_upto_region 5 with fail
      go_cut [27] (fun s wx => s = .bool B1 ∧ wr = wx)
      case first =>
        obtain ⟨Z, hZ⟩ : ∃ Z : Int, (li.length : Int) = Z := ⟨_, rfl⟩
        by_cases g1 : 3000 < li.length
        · have g3 : (3000 : Int) < Z := by omega
          have e : B1 = true := by rw [← hB]; exact decide_eq_true g1
          clear hB g1
          subst e
          go_wp2_with fail
          go_meet
          exact ⟨rfl, rfl⟩
        · have g3 : ¬ (3000 : Int) < Z := by omega
          have e : B1 = false := by rw [← hB]; exact decide_eq_false g1
          clear hB g1
          subst e
          go_wp2_with fail
          go_meet
          exact ⟨rfl, rfl⟩
      obtain ⟨rfl, rfl⟩ := hcut
      rcases B1 with _ | _
      · have hlim : li.length ≤ 3000 := by have := of_decide_eq_false hB; omega
        clear hB
        go_upto_if 31 with fail
        have HF0 := Lib.hid (show Fresh wr (wr.alloc (Obj.cells #[] 5)) from (Upd.refl wr).alloc _)
        have HS0 := Lib.hid (sl_fr wr #[] [] (0, 0) rfl (by simp))
        generalize wr.alloc (Obj.cells #[] 5) = w1 at HF0 HS0 ⊢
        generalize (⟨wr.heap.size, 0, none⟩ : Addr) = ad1 at HS0 ⊢
        go_cut [5] (fun s wx => ∃ (Af : Option Addr) (cf : Nat), s = .slice Af now.length cf ∧ Hid (Sl wx Af now cf) ∧ Hid (Fresh wr wx))
        case first =>
          rcases i with _ | k
          · have h0 := HZ.out rfl
            subst h0
            clear HP
            go_wp2_with fail
            go_meet
            exact ⟨_, 0, rfl, HS0, HF0⟩
          · obtain ⟨hck, hsk, hnk⟩ := HP.out k rfl w1 HF0.out
            subst hnk
            have hk1 : ((k + 1 : Nat) : Int) - 1 = (k : Int) := by omega
            have hk2 : decide (0 < k + 1) = true := decide_eq_true (by omega)
            replace hsk := Lib.hid hsk
            clear HP HZ hc0
            go_wp2_with fail
            go_meet
            exact ⟨_, _, rfl, hsk, HF0⟩
        obtain ⟨Af, cf, rfl, HSf, HFf⟩ := hcut
        have HSn := Lib.hid (HS.out.fresh HFf.out)
        have hc1 := HKeep.out _ HFf.out
        have HK := Lib.hid (make_o HSf.out (HT.out.fresh HFf.out) (by omega) (by omega) (HM.out _ (HF.out.trans HFf.out (fun _ _ h => h))))
        unfold MakeO at HK
        clear hc0 HP HZ
        go_wp2_with fail
        refine HK.out.mono ?_
        rintro e w2 ⟨A2, code, hmk, hcl, rfl, G2⟩
        have HAP := applyS_makes (bound := 3000) hmk (by omega) (by omega) (by omega)
        have HSZ := sizes_three now.length li.length code (by omega) (by omega)
        have hdl : (numS now.length ++ numS li.length ++ code).length ≤ 4000 := by
          have h1 := numS_three (n := now.length) (by omega)
          have h2 := numS_three (n := li.length) (by omega)
          rw [List.length_append, List.length_append]
          omega
        generalize numS now.length ++ numS li.length ++ code = d at G2 HAP HSZ hdl ⊢
        have HSd := Lib.hid (G2.sl (by omega))
        have F2 := Lib.hid G2.2.2
        have HZ1 := Lib.hid (sizesP_o HSd.out)
        rw [HSZ] at HZ1
        dsimp only at HZ1
        have HA := Lib.hid (fun (w9 : World) (h9 : Fresh w2 w9) => apply_o (bound := (3000 : Int)) (HSn.out.fresh (F2.out.trans h9 (fun _ _ h => h))) (HSd.out.fresh h9) (by omega) (by omega))
        rw [show (3000 : Int).toNat = 3000 from rfl, HAP] at HA
        unfold ApplyO at HA
        dsimp only at HA
        clear HK HAP HSZ hmk hcl G2 hc1
        go_wp2_with fail
        refine HZ1.out.mono ?_
        rintro e w3 ⟨rfl, F3⟩
        go_wp2_with fail
        refine (HA.out w3 F3).mono ?_
        rintro e w4 ⟨A4, rfl, G4⟩
        have F4 := Lib.hid (((HFf.out.trans F2.out (fun _ _ h => h)).trans F3 (fun _ _ h => h)).trans G4.2.2 (fun _ _ h => h))
        have hc2 := fun nq => HKeep.out (w4.drewN nq) (F4.out.drewN nq)
        have sx := fun nq => arr_conv (w := w4.drewN nq) (n := li.length) (c := li.length) (l := li) (G4.1.upd ((Upd.refl w4).drewN nq) (fun _ _ h => h))
        have sy := fun nq => conv_of (w := w4.drewN nq) (c := Ci) (HT.out.fresh (F4.out.drewN nq)).rd
        replace G4 := Lib.hid G4
        replace F3 := Lib.hid F3
        clear HA HZ1
        go_upto_region 13 with fail
        go_quiet (fail)
        clear sx sy hc2
        go_wp2_with fail
        go_roundg (gk - 1)
        case measure => omega
        case rel => exact ⟨i + 1, A4, li.length, li, by omega, by go_num, rfl, by omega, HNext.out, by omega, (G4.out.sl (by omega)).fresh ((Upd.refl w4).drewN nq), HF.out.trans (F4.out.drewN nq) (fun _ _ h => h)⟩
      · clear hB
        go_wp2_with fail
        refine (awake_any _).mono ?_
        rintro e w9 ⟨rfl, F9⟩
        go_wp2_with fail
        go_ret
        exact ⟨rfl, HF.out.trans F9 (fun _ _ h => h)⟩
end Go.Proofs.Ytiiolpchefldlaa
