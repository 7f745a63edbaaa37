import Derived.Test.YtiiolpchefldlaaKit
import Derived.Test.YtiiolpchefldlaaChecked
import Derived.Deep.Cut
import Derived.Deep.CutRange
import Derived.Deep.CutBlock
import Derived.StillTailTactics
namespace Go.Proofs.Ytiiolpchefldlaa
open Go.RowKit

theorem Try.info5 : (Try.prog.info? 5).map (fun i => (i.zero, i.size, i.bytes)) = some (some (.int .u8 0), 1, 1) := by kernel_rfl
/-- A row of bytes that a call has made. -/
structure Own (w0 w : World) (A : Option Addr) (c : Nat) (b : List UInt8) : Prop where
  own : w.ownsRow 0 5 1 (.slice A b.length c) b.length (bv b)
  ab : AB w0 A
  fr : Fresh w0 w
theorem Own.nil {w0 w : World} (h : Fresh w0 w) : Own w0 w none 0 [] := ⟨World.ownsRow_nil _ _ _ _, AB.none_ _, h⟩
theorem Own.fresh {w0 w w' : World} {A : Option Addr} {c : Nat} {b : List UInt8} (h : Own w0 w A c b) (hu : Fresh w w') : Own w0 w' A c b := ⟨owns_upd h.own hu (fun _ _ h => h), h.ab, h.fr.trans hu (fun _ _ h => h)⟩
theorem Own.app {w0 w w1 w2 : World} {A A2 : Option Addr} {c c2 n : Nat} {b d : List UInt8} (h : Own w0 w A c b) (h1 : Fresh w w1) (ho : w2.ownsRow 0 5 1 (.slice A2 n c2) n (bv b ++ bv d)) (hn : n = (b ++ d).length) (hg : w1.grownBy w2 (Value.slice A b.length c).ownBlock)
    (hat : (Value.slice A2 n c2).ownBlock = (Value.slice A b.length c).ownBlock ∨ (Value.slice A2 n c2).ownBlock = some w1.heap.size) : Own w0 w2 A2 c2 (b ++ d) := by
  subst hn
  refine ⟨by rw [bv_append]; exact ho, ?_, ?_⟩
  · intro k hk
    rw [ownBlock_map, ownBlock_map, hk] at hat
    rcases hat with e | e
    · exact h.ab k e.symm
    · injection e with e
      have := h.fr.size
      have := h1.size
      omega
  · have hu : Upd (fun i => w0.heap.size ≤ i) w0 w2 := (Fresh.to (h.fr.trans h1 (fun _ _ h => h))).grown hg (fun i hi _ => h.ab i (by rw [ownBlock_map] at hi; exact hi))
    exact ⟨hu.os, hu.tape, hu.output, hu.size, fun k hk _ => hu.block k hk (by omega)⟩
theorem reads_cells (w : World) (b : List UInt8) (cs : Array Value) (h : cs.toList = bv b) (n : Nat) (hn : n = b.length) : Reads (w.alloc (.cells cs 5)) (fun _ => True) 1 (some ⟨w.heap.size, 0, none⟩) n (bv b) := by
  subst hn
  have := reads_new w cs 5 1 b.length (by rw [← Array.length_toList, h]; simp [bv])
  rwa [h] at this
/-- Bytes that a call hands back, in memory of its own. -/
def Got (b : List UInt8) (w : World) (A : Option Addr) (w' : World) : Prop := Arr w' 5 A b.length (bv b) ∧ AB w A ∧ Fresh w w'
theorem Own.got {w0 w : World} {A : Option Addr} {c : Nat} {b : List UInt8} (h : Own w0 w A c b) : Got b w0 A w := ⟨Arr.of_own h.own, h.ab, h.fr⟩
theorem conv_of {w : World} {A : Option Addr} {c : Nat} {l : List UInt8} (h : Reads w (fun _ => True) 1 A l.length (bv l)) : (convert 22 9 (.slice A l.length c)).run Try.prog w = .ok (.string ⟨l.toArray⟩) w :=
  run_string_of (P := Try.prog) 22 9 5 Try.underlying22 Try.underlying5 Try.underlying9 h

/-! ### Number -/
/-- A number, seven bits a byte, the lowest first. -/
def numB : Nat → Nat → List UInt8
  | 0, n => [UInt8.ofNat n]
  | f + 1, n => if 127 < n then UInt8.ofNat (n % 128 + 128) :: numB f (n / 128) else [UInt8.ofNat n]
theorem numB_fuel : ∀ (f g n : Nat), n < 128 ^ (f + 1) → n < 128 ^ (g + 1) → numB f n = numB g n
  | 0, 0, n, _, _ => rfl
  | 0, g + 1, n, h, _ => by rw [numB, numB, if_neg (by omega)]
  | f + 1, 0, n, _, h => by rw [numB, numB, if_neg (by omega)]
  | f + 1, g + 1, n, h1, h2 => by
    rw [numB, numB]
    by_cases hn : 127 < n
    · rw [if_pos hn, if_pos hn, numB_fuel f g (n / 128) (Nat.div_lt_of_lt_mul (by rw [Nat.mul_comm, ← Nat.pow_succ]; exact h1)) (Nat.div_lt_of_lt_mul (by rw [Nat.mul_comm, ← Nat.pow_succ]; exact h2))]
    · rw [if_neg hn, if_neg hn]
def numS (n : Nat) : List UInt8 := numB 9 n
theorem numS_big {n : Nat} (h : 127 < n) (hn : n < 9223372036854775808) : numS n = UInt8.ofNat (n % 128 + 128) :: numS (n / 128) := by
  rw [numS, numB, if_pos h, numS, numB_fuel 8 9 (n / 128) (by omega) (by omega)]
theorem numS_small {n : Nat} (h : ¬ 127 < n) : numS n = [UInt8.ofNat n] := by rw [numS, numB, if_neg h]
theorem numS_pos (n : Nat) : 1 ≤ (numS n).length := by
  unfold numS
  rw [numB]
  split <;> simp
theorem or128 (n : Nat) : bits .or .u8 ((n : Int) % 256) 128 = ((UInt8.ofNat (n % 128 + 128)).toNat : Int) := by
  have key : ∀ k : Fin 256, bits .or .u8 ((k.val : Nat) : Int) 128 = ((k.val % 128 + 128 : Nat) : Int) := by decide +kernel
  have h := key ⟨n % 256, by omega⟩
  dsimp only at h
  rw [show (n : Int) % 256 = ((n % 256 : Nat) : Int) by omega, h, UInt8.toNat_ofNat']
  omega
structure NumAt (w0 w : World) (A : Option Addr) (c : Nat) (n0 n : Nat) (out : List UInt8) : Prop where
  own : Own w0 w A c out
  eq : out ++ numS n = numS n0
  lt : n < 9223372036854775808
  len : out.length ≤ 10
def NumO (x : Int) (w : World) (e : Ending) (w' : World) : Prop := ∃ A, e = .returned (.slice A (numS x.toNat).length (numS x.toNat).length) ∧ Got (numS x.toNat) w A w'
def RNumO (x : Int) (w : World) (e : Ending) (w' : World) : Prop := ∃ A c, e = .returned (.slice A (numS x.toNat).length c) ∧ Own w w' A c (numS x.toNat)
theorem numB_len : ∀ (f n : Nat), (numB f n).length ≤ f + 1
  | 0, n => by simp [numB]
  | f + 1, n => by
    rw [numB]
    split
    · have := numB_len f (n / 128)
      simp only [List.length_cons]
      omega
    · simp
theorem numS_len (n : Nat) : (numS n).length ≤ 10 := numB_len 9 n
set_option maxHeartbeats 1600000 in
theorem number_o (x : Int) (w : World) (hx1 : -9223372036854775808 ≤ x) (hx2 : x ≤ 9223372036854775807) : Calls Try.prog 12 #[.int .i64 x] w (NumO x w) := by
  obtain ⟨i0, hi0, hz0, hz1, hz2⟩ := info_parts Try.info5
  obtain ⟨n0, hn0⟩ : ∃ n0, x.toNat = n0 := ⟨_, rfl⟩
  unfold NumO
  rw [hn0]
  have hlt : n0 < 9223372036854775808 := by omega
  go_enter Try.func12, Try.ntmps12
  go_upto_region 1 with fail
  go_cut [0] (fun s0 wx => s0 = .int .i64 (n0 : Int) ∧ w = wx)
  case first =>
    rcases (show (x < 0 ∧ n0 = 0) ∨ (0 ≤ x ∧ x = (n0 : Int)) by omega) with ⟨h, e⟩ | ⟨h, e⟩
    · subst e
      go_wp2_with fail
      go_meet
      exact ⟨by congr 1, rfl⟩
    · go_wp2_with fail
      go_meet
      exact ⟨by congr 1, rfl⟩
  obtain ⟨rfl, rfl⟩ := hcut
  clear hn0 hx1 hx2
  go_wp2_with fail
  go_loopg [0, 3] n0 (fun gk s0 s3 wx => ∃ (A1 : Option Addr) (c1 : Nat) (out : List UInt8), s0 = .int .i64 (gk : Int) ∧ s3 = .slice A1 out.length c1 ∧ Hid (NumAt w wx A1 c1 n0 gk out))
  case atStart => exact ⟨none, 0, [], rfl, rfl, Own.nil (Upd.refl w), rfl, hlt, Nat.zero_le _⟩
  case round =>
    obtain ⟨A1, c1, out, rfl, rfl, HN⟩ := hrel
    have hol := HN.out.len
    have hgl := HN.out.lt
    have hle : out.length + 1 ≤ 10 := by
      have h1 := congrArg List.length HN.out.eq
      have h2 := numS_len n0
      have h3 := numS_pos gk
      rw [List.length_append] at h1
      omega
    by_cases hb : 127 < gk
    · have HO := Lib.hid (or128 gk)
      have ho := or128 gk
      have HE := Lib.hid (show (out ++ [UInt8.ofNat (gk % 128 + 128)]) ++ numS (gk / 128) = numS n0 by rw [← HN.out.eq, numS_big hb hgl, List.append_assoc]; rfl)
      generalize UInt8.ofNat (gk % 128 + 128) = y at ho HE
      go_wp2_with (first
        | (at_builtin
           refine wpList_append_any _ rfl (.tmp 10) (.tmp 14) 22 rfl 5 i0 _ 1 1 Try.underlying22 hi0 hz0 hz1 hz2 rfl (by omega) (.slice A1 out.length c1) out.length (bv out) rfl (HN.out.own.fresh ((Upd.refl wr).alloc _)).own (fun _ => True) (some ⟨wr.heap.size, 0, none⟩) 1 1 (bv [y]) rfl (reads_cells wr [y] #[.int .u8 y.toNat] rfl 1 rfl) (bv_one _) (by unfold maxLen; omega) (by omega) ?_
           intro A3 d3 w3 hown3 hg3 hat3
           have HO3 := Lib.hid (HN.out.own.app ((Upd.refl wr).alloc _) hown3 (by simp) hg3 hat3)
           clear hown3 hg3 hat3))
      rw [show (gk : Int) / 128 = ((gk / 128 : Nat) : Int) by omega]
      go_roundg (gk / 128)
      case measure => omega
      case rel => exact ⟨A3, d3, _, rfl, by rw [List.length_append]; rfl, HO3.out, HE.out, by omega, by rw [List.length_append]; exact hle⟩
    · obtain ⟨y, rfl⟩ : ∃ y : UInt8, gk = y.toNat := ⟨UInt8.ofNat gk, by rw [UInt8.toNat_ofNat']; omega⟩
      have HE := Lib.hid (show out ++ [y] = numS n0 by rw [← HN.out.eq, numS_small hb, UInt8.ofNat_toNat])
      go_wp2_with (first
        | (at_builtin
           refine wpList_append_any _ rfl (.tmp 16) (.tmp 19) 22 rfl 5 i0 _ 1 1 Try.underlying22 hi0 hz0 hz1 hz2 rfl (by omega) (.slice A1 out.length c1) out.length (bv out) rfl (HN.out.own.fresh ((Upd.refl wr).alloc _)).own (fun _ => True) (some ⟨wr.heap.size, 0, none⟩) 1 1 (bv [y]) rfl (reads_cells wr [y] #[.int .u8 y.toNat] rfl 1 rfl) (bv_one _) (by unfold maxLen; omega) (by omega) ?_
           intro A3 d3 w3 hown3 hg3 hat3
           have HO3 := Lib.hid (HN.out.own.app ((Upd.refl wr).alloc _) hown3 (by simp) hg3 hat3)
           have hcp := owns_cap hown3
           unfold maxLen at hcp
           clear hown3 hg3 hat3))
      go_ret
      rw [← HE.out]
      exact ⟨A3, by simp, HO3.out.got⟩
set_option maxHeartbeats 1600000 in
theorem rnumber_o (x : Int) (w : World) (hx1 : -9223372036854775808 ≤ x) (hx2 : x ≤ 9223372036854775807) : Calls Try.prog 13 #[.int .i64 x] w (RNumO x w) := by
  obtain ⟨i0, hi0, hz0, hz1, hz2⟩ := info_parts Try.info5
  obtain ⟨n0, hn0⟩ : ∃ n0, x.toNat = n0 := ⟨_, rfl⟩
  unfold RNumO
  rw [hn0]
  have hlt : n0 < 9223372036854775808 := by omega
  go_enter Try.func13, Try.ntmps13
  go_upto_region 1 with fail
  go_cut [0] (fun s0 wx => s0 = .int .i64 (n0 : Int) ∧ w = wx)
  case first =>
    rcases (show (x < 0 ∧ n0 = 0) ∨ (0 ≤ x ∧ x = (n0 : Int)) by omega) with ⟨h, e⟩ | ⟨h, e⟩
    · subst e
      go_wp2_with fail
      go_meet
      exact ⟨by congr 1, rfl⟩
    · go_wp2_with fail
      go_meet
      exact ⟨by congr 1, rfl⟩
  obtain ⟨rfl, rfl⟩ := hcut
  clear hn0 hx1 hx2
  go_wp2_with fail
  go_loopg [0, 3] n0 (fun gk s0 s3 wx => ∃ (A1 : Option Addr) (c1 : Nat) (out : List UInt8), s0 = .int .i64 (gk : Int) ∧ s3 = .slice A1 out.length c1 ∧ Hid (NumAt w wx A1 c1 n0 gk out))
  case atStart => exact ⟨none, 0, [], rfl, rfl, Own.nil (Upd.refl w), rfl, hlt, Nat.zero_le _⟩
  case round =>
    obtain ⟨A1, c1, out, rfl, rfl, HN⟩ := hrel
    have hol := HN.out.len
    have hgl := HN.out.lt
    have hle : out.length + 1 ≤ 10 := by
      have h1 := congrArg List.length HN.out.eq
      have h2 := numS_len n0
      have h3 := numS_pos gk
      rw [List.length_append] at h1
      omega
    by_cases hb : 127 < gk
    · have HO := Lib.hid (or128 gk)
      have ho : ((gk : Int) % 128 + 128) = ((UInt8.ofNat (gk % 128 + 128)).toNat : Int) := by rw [UInt8.toNat_ofNat']; omega
      have HE := Lib.hid (show (out ++ [UInt8.ofNat (gk % 128 + 128)]) ++ numS (gk / 128) = numS n0 by rw [← HN.out.eq, numS_big hb hgl, List.append_assoc]; rfl)
      generalize UInt8.ofNat (gk % 128 + 128) = y at ho HE
      go_wp2_with (first
        | (at_builtin
           refine wpList_append_any _ rfl (.tmp 8) (.tmp 13) 22 rfl 5 i0 _ 1 1 Try.underlying22 hi0 hz0 hz1 hz2 rfl (by omega) (.slice A1 out.length c1) out.length (bv out) rfl (HN.out.own.fresh ((Upd.refl wr).alloc _)).own (fun _ => True) (some ⟨wr.heap.size, 0, none⟩) 1 1 (bv [y]) rfl (reads_cells wr [y] #[.int .u8 y.toNat] rfl 1 rfl) (bv_one _) (by unfold maxLen; omega) (by omega) ?_
           intro A3 d3 w3 hown3 hg3 hat3
           have HO3 := Lib.hid (HN.out.own.app ((Upd.refl wr).alloc _) hown3 (by simp) hg3 hat3)
           clear hown3 hg3 hat3))
      rw [show (gk : Int) / 128 = ((gk / 128 : Nat) : Int) by omega]
      go_roundg (gk / 128)
      case measure => omega
      case rel => exact ⟨A3, d3, _, rfl, by rw [List.length_append]; rfl, HO3.out, HE.out, by omega, by rw [List.length_append]; exact hle⟩
    · obtain ⟨y, rfl⟩ : ∃ y : UInt8, gk = y.toNat := ⟨UInt8.ofNat gk, by rw [UInt8.toNat_ofNat']; omega⟩
      have HE := Lib.hid (show out ++ [y] = numS n0 by rw [← HN.out.eq, numS_small hb, UInt8.ofNat_toNat])
      go_wp2_with (first
        | (at_builtin
           refine wpList_append_any _ rfl (.tmp 17) (.tmp 20) 22 rfl 5 i0 _ 1 1 Try.underlying22 hi0 hz0 hz1 hz2 rfl (by omega) (.slice A1 out.length c1) out.length (bv out) rfl (HN.out.own.fresh ((Upd.refl wr).alloc _)).own (fun _ => True) (some ⟨wr.heap.size, 0, none⟩) 1 1 (bv [y]) rfl (reads_cells wr [y] #[.int .u8 y.toNat] rfl 1 rfl) (bv_one _) (by unfold maxLen; omega) (by omega) ?_
           intro A3 d3 w3 hown3 hg3 hat3
           have HO3 := Lib.hid (HN.out.own.app ((Upd.refl wr).alloc _) hown3 (by simp) hg3 hat3)
           have hcp := owns_cap hown3
           unfold maxLen at hcp
           clear hown3 hg3 hat3))
      go_ret
      rw [← HE.out]
      exact ⟨A3, d3, by simp, HO3.out⟩
end Go.Proofs.Ytiiolpchefldlaa
