import Derived.Test.YtbkbbpdompjgfaaDoorProg
import Derived.Test.YtbkbbpdompjgfaaDoorKit
namespace Go.Proofs.YtbkbbpdompjgfaaDoor
open Go.RowKit

set_option maxRecDepth 100000 in
theorem err70 (w : World) : Calls Tryd.prog 5 #[.int .i64 70] w fun e w' => e = .returned (.string ⟨#[101, 114, 114, 111, 114, 32, 55, 48]⟩) ∧ w = w' := by
  go_enter Tryd.func5, Tryd.ntmps5
  go_wp2
  go_ret
  exact ⟨by rfl, rfl⟩
set_option maxRecDepth 100000 in
theorem err0 (w : World) : Calls Tryd.prog 5 #[.int .i64 0] w fun e w' => e = .returned (.string ⟨#[101, 114, 114, 111, 114, 32, 48]⟩) ∧ w = w' := by
  go_enter Tryd.func5, Tryd.ntmps5
  go_wp2
  go_ret
  exact ⟨by rfl, rfl⟩

def nums : List Int := [0, 1, 2, 3, 4, 5, 6, 50, 60, 61, 62, 64, 70, 71, 80, 81, 82, 83, 65536, 1048576, 4096, 50, 64, 1048576, 4000, 6, 7, 1, 2, 3, 1, 2, 3, 4, 1, 2, 3, 4, 1, 2, 3, 4, 5, 1, 2, 3, 4, 1, 2, 1, 2, 3, 4, 5]
def prl (l : List Int) : List Value := l.flatMap fun v => [.int .i64 v, .int .i64 v]
def vAt (i : Nat) : Int := nums.getD i 0
theorem prl_at (l : List Int) (i : Nat) (hi : i < l.length) : (prl l)[i * 2]? = some (.int .i64 (l.getD i 0)) ∧ (prl l)[i * 2 + 1]? = some (.int .i64 (l.getD i 0)) := by
  induction l generalizing i with
  | nil => simp at hi
  | cons v l ih =>
    have e : prl (v :: l) = .int .i64 v :: .int .i64 v :: prl l := by simp [prl]
    rcases i with _ | i
    · rw [e]; simp
    · rw [e, show (i + 1) * 2 = i * 2 + 1 + 1 by omega]
      simpa using ih i (by simpa using hi)

set_option maxHeartbeats 8000000 in
set_option maxRecDepth 1000000 in
theorem all_any (w : World) : Calls Tryd.prog 4 #[] w fun e w' => e = .returned (.slice (some ⟨w.heap.size, 0, none⟩) 54 54) ∧ w' = w.alloc (.cells (prl nums).toArray 25) := by
  go_enter Tryd.func4, Tryd.ntmps4
  go_wp2
  go_ret
  exact ⟨rfl, rfl⟩

set_option maxHeartbeats 1600000 in
theorem numbers_any (w : World) : Calls Tryd.prog 3 #[] w fun e w' => e = .returned (.bool true) ∧ Fresh w w' := by
  go_enter Tryd.func3, Tryd.ntmps3
  go_wp2_with fail
  refine (all_any w).mono ?_
  rintro e w1 ⟨rfl, hw1⟩
  have HB : Hid (Fresh w w1 ∧ Blk w1 w.heap.size 25 (prl nums).toArray) := by
    subst hw1
    exact ⟨(Upd.refl w).alloc _, Blk.new _ _ _⟩
  clear hw1
  generalize w.heap.size = g at HB ⊢
  go_wp2_with fail
  go_loopg [2] 54 (fun gk s2 wx => ∃ i : Nat, gk + i = 54 ∧ s2 = .int .i64 (i : Int) ∧ Hid (Fresh w wx ∧ Blk wx g 25 (prl nums).toArray))
  case atStart => exact ⟨0, rfl, rfl, HB.out⟩
  case round =>
    obtain ⟨i, hgk, rfl, HX⟩ := hrel
    by_cases hi : i < 54
    · have h1 := prl_at nums i hi
      have c0 := HX.out.2.cell (i * 2)
      have c1 := HX.out.2.cell (i * 2 + 1)
      rw [List.getElem?_toArray, h1.1] at c0
      rw [List.getElem?_toArray, h1.2] at c1
      have c0 : wr.cell? ⟨g, i * 2, none⟩ = some (.int .i64 (vAt i)) := c0
      have c1 : wr.cell? ⟨g, i * 2 + 1, none⟩ = some (.int .i64 (vAt i)) := c1
      clear h1
      go_wp2_with fail
      go_quiet (fail)
      go_wp2_with fail
      go_roundg (gk - 1)
      case measure => omega
      case rel => exact ⟨i + 1, by omega, by go_num, HX.out.1.drewN _, HX.out.2.drewN _⟩
    · go_wp2_with fail
      refine (err70 _).mono ?_
      rintro e w5 ⟨rfl, rfl⟩
      go_wp2_with fail
      refine (err0 _).mono ?_
      rintro e w5 ⟨rfl, rfl⟩
      go_wp2_with fail
      go_ret
      exact ⟨rfl, HX.out.1⟩
end Go.Proofs.YtbkbbpdompjgfaaDoor
