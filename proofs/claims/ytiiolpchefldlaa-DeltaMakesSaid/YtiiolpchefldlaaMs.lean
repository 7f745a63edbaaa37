import Derived.Test.YtiiolpchefldlaaMo
import Derived.Test.YtiiolpchefldlaaRa
namespace Go.Proofs.Ytiiolpchefldlaa
open Go.RowKit

set_option maxHeartbeats 3200000 in
set_option maxRecDepth 100000 in
theorem makes_any {A0 A1 : Option Addr} {c0 c1 : Nat} {base text : List UInt8} {w : World} {m : Int} (hb : Sl w A0 base c0) (ht : Sl w A1 text c1) (hm : w.cell? ⟨0, 0, none⟩ = some (.int .i64 m)) :
    Calls Try.prog 7 #[.slice A0 base.length c0, .slice A1 text.length c1] w fun e w' => e = .returned (.bool true) ∧ Fresh w w' := by
  have HB := Lib.hid hb
  have HT := Lib.hid ht
  have HM := Lib.hid hm
  have hbl := hb.le
  have hbm := hb.cm
  have htl := ht.le
  have htm := ht.cm
  clear hb ht hm
  obtain ⟨B, hB⟩ : ∃ B, decide (20000 < base.length ∨ 20000 < text.length) = B := ⟨_, rfl⟩
  replace hB := Lib.hid hB
  go_enter Try.func7, Try.ntmps7
  go_upto_region 1 with fail
  go_cut [17] (fun s wx => s = .bool B ∧ w = wx)
  case first =>
    obtain ⟨Z, hZ⟩ : ∃ Z : Int, (base.length : Int) = Z := ⟨_, rfl⟩
    obtain ⟨Y, hY⟩ : ∃ Y : Int, (text.length : Int) = Y := ⟨_, rfl⟩
    by_cases g1 : 20000 < base.length
    · have g3 : (20000 : Int) < Z := by omega
      have e : B = true := by rw [← hB.out]; exact decide_eq_true (.inl g1)
      clear g1
      subst e
      go_wp2_with fail
      go_meet
      exact ⟨rfl, rfl⟩
    · have g3 : ¬ (20000 : Int) < Z := by omega
      by_cases g2 : 20000 < text.length
      · have g4 : (20000 : Int) < Y := by omega
        have e : B = true := by rw [← hB.out]; exact decide_eq_true (.inr g2)
        clear g1 g2
        subst e
        go_wp2_with fail
        go_meet
        exact ⟨rfl, rfl⟩
      · have g4 : ¬ (20000 : Int) < Y := by omega
        have e : B = false := by rw [← hB.out]; exact decide_eq_false (fun h => h.elim g1 g2)
        clear g1 g2
        subst e
        go_wp2_with fail
        go_meet
        exact ⟨rfl, rfl⟩
  obtain ⟨rfl, rfl⟩ := hcut
  rcases B with _ | _
  · have hlim := of_decide_eq_false hB.out
    have hl1 : base.length ≤ 20000 := by omega
    have hl2 : text.length ≤ 20000 := by omega
    clear hB hlim
    have HK := Lib.hid (make_o HB.out HT.out (by omega) (by omega) HM.out)
    unfold MakeO at HK
    replace hl1 := Lib.hid hl1
    go_wp2_with fail
    refine HK.out.mono ?_
    rintro e w2 ⟨A2, code, hmk, hcl, rfl, G2⟩
    have HAP := applyS_makes (bound := text.length) hmk (by have := hl1.out; omega) (by omega) (by omega)
    obtain ⟨q, hq⟩ : ∃ q : Nat, q = text.length / 127 := ⟨_, rfl⟩
    have hdl : (numS base.length ++ numS text.length ++ code).length ≤ text.length + q + 14 := by
      have h1 := numS_three (n := base.length) (by have := hl1.out; omega)
      have h2 := numS_three (n := text.length) (by omega)
      rw [List.length_append, List.length_append]
      omega
    generalize numS base.length ++ numS text.length ++ code = d at G2 HAP hdl ⊢
    have HA := Lib.hid (apply_o (bound := (text.length : Int)) (HB.out.fresh G2.2.2) (G2.sl (by omega)) (by omega) (by omega))
    rw [Int.toNat_natCast, HAP] at HA
    have HRA := Lib.hid (fun (w9 : World) (h9 : Fresh w2 w9) => rapply_o (bound := (text.length : Int)) (HB.out.fresh (G2.2.2.trans h9 (fun _ _ h => h))) ((G2.sl (by omega)).fresh h9) (by omega) (by omega))
    rw [Int.toNat_natCast, HAP] at HRA
    have F2 := Lib.hid G2.2.2
    clear HK HAP hmk hcl G2
    unfold ApplyO at HA
    unfold RApplyO at HRA
    dsimp only at HA HRA
    go_wp2_with fail
    refine HA.out.mono ?_
    rintro e w3 ⟨A3, rfl, G3⟩
    replace G3 := Lib.hid G3
    go_wp2_with fail
    refine (HRA.out w3 G3.out.2.2).mono ?_
    rintro e w4 ⟨A4, c4, rfl, G4⟩
    have F4 := Lib.hid ((F2.out.trans G3.out.2.2 (fun _ _ h => h)).trans G4.fr (fun _ _ h => h))
    have sx := arr_conv (n := text.length) (c := text.length) (l := text) (G3.out.1.upd G4.fr (fun _ _ h => h))
    have sw := arr_conv (n := text.length) (c := c4) (l := text) (Arr.of_own G4.own)
    have sy := conv_of (c := c1) (HT.out.fresh F4.out).rd
    clear G3 G4 HA HRA F2
    have hq1 : (text.length : Int).tdiv 127 = (q : Int) := by rw [Int.tdiv_eq_ediv_of_nonneg (by omega)]; omega
    have hdl2 : (d.length : Int) ≤ (text.length : Int) + (q : Int) + 14 := by omega
    have hq2 : q ≤ 200 := by omega
    clear hq hdl
    go_wp2_with fail
    refine (awake_any _).mono ?_
    rintro e w9 ⟨rfl, F9⟩
    go_wp2_with fail
    go_ret
    exact ⟨rfl, F4.out.trans F9 (fun _ _ h => h)⟩
  · clear hB
    go_wp2_with fail
    refine (awake_any _).mono ?_
    rintro e w9 ⟨rfl, F9⟩
    go_wp2_with fail
    go_ret
    exact ⟨rfl, F9⟩
end Go.Proofs.Ytiiolpchefldlaa
