import Derived.Test.YtiiolpchefldlaaAp
import Derived.Lib.SlBytesConst
import Derived.Lib.ConvBytes
namespace Go.Proofs.Ytiiolpchefldlaa
open Go.RowKit

theorem reads_fr (w : World) (cs : Array Value) (l : List UInt8) (fr : Nat × Nat) (h : cs.toList = bv l) : Reads (w.alloc (.cells cs 5 fr)) (fun _ => True) 1 (some ⟨w.heap.size, 0, none⟩) l.length (bv l) :=
  ⟨by simp [bv], fun _ => ⟨_, rfl, trivial, by simp, fun j u hu => World.news_of_block (heap_alloc_new w (.cells cs 5 fr)) j u (by rw [h]; exact hu)⟩⟩
theorem sl_fr (w : World) (cs : Array Value) (l : List UInt8) (fr : Nat × Nat) (h : cs.toList = bv l) (hm : l.length ≤ 9223372036854775807) : Sl (w.alloc (.cells cs 5 fr)) (some ⟨w.heap.size, 0, none⟩) l l.length :=
  ⟨reads_fr w cs l fr h, Nat.le_refl _, hm, fun h => by cases h⟩
theorem arr_conv {w : World} {A : Option Addr} {n c : Nat} {l : List UInt8} (h : Arr w 5 A n (bv l)) : (convert 22 9 (.slice A n c)).run Try.prog w = .ok (.string ⟨l.toArray⟩) w := by
  have hl : l.length = n := by have := h.1; simpa [bv] using this
  have h1 := run_string_of (P := Try.prog) (w := w) (S := fun k => A.map (·.block) = some k) (A := A) (c := c) (l := l) 22 9 5 Try.underlying22 Try.underlying5 Try.underlying9 (by rw [hl]; exact h.reads)
  rw [hl] at h1
  exact h1
theorem awk1 : applyS [97, 98, 99] [3, 5, 145, 1, 2, 3, 120, 121, 122] 9 = ([98, 99, 120, 121, 122], 0) := by decide +kernel
theorem awk2 : applyS [97, 98, 99] [3, 1, 0] 9 = ([], 3) := by decide +kernel
theorem awk3 : numS 300 = [172, 2] := by decide +kernel
set_option maxHeartbeats 1600000 in
theorem awake_any (w : World) : Calls Try.prog 8 #[] w fun e w' => e = .returned (.bool true) ∧ Fresh w w' := by
  have kc := fun (w : World) (C : Array Value) (n c : Nat) => Lib.run_convert_bytes_const (P := Try.prog) w 22 5 C n c Try.underlying22 Try.underlying5
  have kc2 := fun (w : World) (D : Obj) (C : Array Value) (n c : Nat) => (show (convert 22 22 (.slice (some ⟨w.heap.size + 1, 0, none⟩) n c)).run Try.prog ((w.alloc D).alloc (.cells C 5)) = .ok (.slice (some ⟨w.heap.size + 1, 0, none⟩) n c) ((w.alloc D).alloc (.cells C 5 (C.size, C.size + 1))) by
    have := kc (w.alloc D) C n c
    simpa using this)
  have HA := Lib.hid (fun (w1 : World) => (sl_fr w1 #[.int .u8 97, .int .u8 98, .int .u8 99] [97, 98, 99] (3, 4) rfl (by simp)))
  go_enter Try.func8, Try.ntmps8
  go_wp2_with fail
  have F1 := Lib.hid (((Upd.refl (F := fun _ => False) w).alloc (.cells #[.int .u8 97, .int .u8 98, .int .u8 99] 5 (3, 4))).alloc (.cells #[.int .u8 3, .int .u8 5, .int .u8 145, .int .u8 1, .int .u8 2, .int .u8 3, .int .u8 120, .int .u8 121, .int .u8 122] 5 (9, 10)))
  have S1 := Lib.hid ((HA.out w).fresh ((Upd.refl _).alloc (.cells #[.int .u8 3, .int .u8 5, .int .u8 145, .int .u8 1, .int .u8 2, .int .u8 3, .int .u8 120, .int .u8 121, .int .u8 122] 5 (9, 10))))
  have S2 := Lib.hid (show Sl ((w.alloc (.cells #[.int .u8 97, .int .u8 98, .int .u8 99] 5 (3, 4))).alloc (.cells #[.int .u8 3, .int .u8 5, .int .u8 145, .int .u8 1, .int .u8 2, .int .u8 3, .int .u8 120, .int .u8 121, .int .u8 122] 5 (9, 10))) (some ⟨w.heap.size + 1, 0, none⟩) [3, 5, 145, 1, 2, 3, 120, 121, 122] 9 by
    have := sl_fr (w.alloc (.cells #[.int .u8 97, .int .u8 98, .int .u8 99] 5 (3, 4))) #[.int .u8 3, .int .u8 5, .int .u8 145, .int .u8 1, .int .u8 2, .int .u8 3, .int .u8 120, .int .u8 121, .int .u8 122] [3, 5, 145, 1, 2, 3, 120, 121, 122] (9, 10) rfl (by simp)
    simpa using this)
  have HC := Lib.hid (apply_o (bound := 9) S1.out S2.out (by omega) (by omega))
  rw [show (9 : Int).toNat = 9 by rfl, awk1] at HC
  refine HC.out.mono ?_
  rintro e w2 ⟨A2, rfl, G2⟩
  replace G2 := Lib.hid G2
  have F2 := Lib.hid (F1.out.trans G2.out.2.2 (fun _ _ h => h))
  dsimp only [List.length_cons, List.length_nil]
  clear F1 S1 S2 HC
  go_wp2_with fail
  have F3 := Lib.hid ((F2.out.alloc (.cells #[.int .u8 97, .int .u8 98, .int .u8 99] 5 (3, 4))).alloc (.cells #[.int .u8 3, .int .u8 1, .int .u8 0] 5))
  have T1 := Lib.hid ((HA.out w2).fresh ((Upd.refl _).alloc (.cells #[.int .u8 3, .int .u8 1, .int .u8 0] 5)))
  have T2 := Lib.hid (show Sl ((w2.alloc (.cells #[.int .u8 97, .int .u8 98, .int .u8 99] 5 (3, 4))).alloc (.cells #[.int .u8 3, .int .u8 1, .int .u8 0] 5)) (some ⟨w2.heap.size + 1, 0, none⟩) [3, 1, 0] 3 by
    have := sl_fr (w2.alloc (.cells #[.int .u8 97, .int .u8 98, .int .u8 99] 5 (3, 4))) #[.int .u8 3, .int .u8 1, .int .u8 0] [3, 1, 0] (0, 0) rfl (by simp)
    simpa using this)
  have HC := Lib.hid (apply_o (bound := 9) T1.out T2.out (by omega) (by omega))
  rw [show (9 : Int).toNat = 9 by rfl, awk2] at HC
  have F0 := Lib.hid (((Upd.refl (F := fun _ => False) w2).alloc (.cells #[.int .u8 97, .int .u8 98, .int .u8 99] 5 (3, 4))).alloc (.cells #[.int .u8 3, .int .u8 1, .int .u8 0] 5))
  refine HC.out.mono ?_
  rintro e w3 ⟨A3, rfl, G3⟩
  replace G3 := Lib.hid G3
  have F4 := Lib.hid (F3.out.trans G3.out.2.2 (fun _ _ h => h))
  have AR := Lib.hid (G2.out.1.upd (F0.out.trans G3.out.2.2 (fun _ _ h => h)) (fun _ _ h => h))
  clear F0 F2 F3 G3 T1 T2 HC
  dsimp only [List.length_cons, List.length_nil]
  have sx := arr_conv (n := 5) (c := 5) AR.out
  go_wp2_with fail
  refine (number_o 300 w3 (by omega) (by omega)).mono ?_
  rintro e w4 ⟨A4, rfl, G4⟩
  rw [show (300 : Int).toNat = 300 by rfl, awk3] at G4 ⊢
  have F5 := Lib.hid (F4.out.trans G4.2.2 (fun _ _ h => h))
  have sy := arr_conv (n := 2) (c := 2) G4.1
  dsimp only [List.length_cons, List.length_nil]
  clear G4
  go_wp2_with fail
  go_ret
  exact ⟨rfl, F5.out⟩
end Go.Proofs.Ytiiolpchefldlaa
