import Derived.Test.YtiiolpchefldlaaRn
namespace Go.Proofs.Ytiiolpchefldlaa
open Go.RowKit

/-! ### sizes, Sizes -/
def sizesS (b : List UInt8) : Nat × Nat × List UInt8 × Nat :=
  if (numDS b).2.2 ≠ 0 then (0, 0, [], (numDS b).2.2)
  else if (numDS (numDS b).2.1).2.2 ≠ 0 then (0, 0, [], (numDS (numDS b).2.1).2.2)
  else ((numDS b).1, (numDS (numDS b).2.1).1, (numDS (numDS b).2.1).2.1, 0)
def SizesO (w0 : World) (r : Nat × Nat × List UInt8 × Nat) (w : World) (e : Ending) (w' : World) : Prop := ∃ A c, e = .returned (.tuple #[.int .i64 (r.1 : Int), .int .i64 (r.2.1 : Int), .slice A r.2.2.1.length c, .int .i64 (r.2.2.2 : Int)]) ∧ Sl w0 A r.2.2.1 c ∧ Fresh w w'
set_option maxHeartbeats 1600000 in
set_option maxRecDepth 100000 in
theorem sizes_o {A : Option Addr} {c : Nat} {b : List UInt8} {w0 w : World} (h : Sl w0 A b c) (hf : Fresh w0 w) : Calls Try.prog 21 #[.slice A b.length c] w (SizesO w0 (sizesS b) w) := by
  have H1 := Lib.hid (decn_o h hf)
  unfold sizesS
  have H2 := Lib.hid (fun (w1 : World) (A1 : Option Addr) (c1 : Nat) (h1 : Sl w0 A1 (numDS b).2.1 c1) (hf1 : Fresh w w1) => decn_o h1 (hf.trans hf1 (fun _ _ h => h)))
  clear h hf
  generalize numDS b = r at H1 H2
  obtain ⟨v, t, e0⟩ := r
  dsimp only at H1 H2 ⊢
  generalize numDS t = r2 at H2
  obtain ⟨v2, t2, e2⟩ := r2
  dsimp only at H2 ⊢
  obtain ⟨R, hR⟩ : ∃ R : Nat × Nat × List UInt8 × Nat, (if e0 ≠ 0 then (0, 0, [], e0) else if e2 ≠ 0 then (0, 0, [], e2) else (v, v2, t2, 0)) = R := ⟨_, rfl⟩
  rw [hR]
  have HR := Lib.hid hR
  clear hR
  go_enter Try.func21, Try.ntmps21
  go_wp2_with fail
  refine H1.out.mono ?_
  rintro e w1 ⟨A1, c1, rfl, S1, F1⟩
  dsimp only at S1
  have S1 := Lib.hid S1
  have F1 := Lib.hid F1
  by_cases he : e0 = 0
  · subst he
    go_wp2_with fail
    refine (H2.out _ _ _ S1.out F1.out).mono ?_
    rintro e w2 ⟨A2, c2, rfl, S2, F2⟩
    dsimp only at S2
    have S2 := Lib.hid S2
    have F2 := Lib.hid F2
    by_cases he2 : e2 = 0
    · subst he2
      go_wp2_with fail
      refine bodyPost_ret (results_tmp4 rfl _ _ _) rfl ?_
      have hR := HR.out
      rw [if_neg (by simp), if_neg (by simp)] at hR
      rw [← hR]
      exact ⟨A2, c2, rfl, S2.out, F1.out.trans F2.out (fun _ _ h => h)⟩
    · have b2 : ((e2 : Int) == 0) = false := by simpa using he2
      go_wp2_with fail
      refine bodyPost_ret (results_tmp4 rfl _ _ _) rfl ?_
      have hR := HR.out
      rw [if_neg (by simp), if_pos he2] at hR
      rw [← hR]
      exact ⟨none, 0, rfl, Sl.nil w0, F1.out.trans F2.out (fun _ _ h => h)⟩
  · have b2 : ((e0 : Int) == 0) = false := by simpa using he
    go_wp2_with fail
    refine bodyPost_ret (results_tmp4 rfl _ _ _) rfl ?_
    have hR := HR.out
    rw [if_pos he] at hR
    rw [← hR]
    exact ⟨none, 0, rfl, Sl.nil w0, F1.out⟩
set_option maxHeartbeats 1600000 in
theorem sizesP_o {A : Option Addr} {c : Nat} {b : List UInt8} {w : World} (h : Sl w A b c) : Calls Try.prog 11 #[.slice A b.length c] w fun e w' => e = .returned (.tuple #[.int .i64 ((sizesS b).1 : Int), .int .i64 ((sizesS b).2.1 : Int), .int .i64 ((sizesS b).2.2.2 : Int)]) ∧ Fresh w w' := by
  have H1 := Lib.hid (sizes_o h (Upd.refl w))
  clear h
  generalize sizesS b = r at H1
  obtain ⟨v, t, r, e0⟩ := r
  dsimp only at H1 ⊢
  go_enter Try.func11, Try.ntmps11
  go_wp2_with fail
  refine H1.out.mono ?_
  rintro e w1 ⟨A1, c1, rfl, S1, F1⟩
  go_wp2_with fail
  go_ret3
  exact ⟨rfl, F1⟩
end Go.Proofs.Ytiiolpchefldlaa
