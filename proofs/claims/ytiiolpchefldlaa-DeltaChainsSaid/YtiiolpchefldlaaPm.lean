import Derived.Test.YtiiolpchefldlaaAp
import Derived.Test.YtiiolpchefldlaaCp
import Derived.Test.YtiiolpchefldlaaPn
namespace Go.Proofs.Ytiiolpchefldlaa

/-! ### What instructions make -/
def Makes (base code out : List UInt8) : Prop := ∀ (tn : Nat) (pre rest : List UInt8), pre.length + out.length ≤ tn → runD base tn ((code ++ rest).length + 1) pre (code ++ rest) = runD base tn (rest.length + 1) (pre ++ out) rest
theorem Makes.nil (base : List UInt8) : Makes base [] [] := fun tn pre rest _ => by simp
theorem Makes.app {base c1 c2 o1 o2 : List UInt8} (h1 : Makes base c1 o1) (h2 : Makes base c2 o2) : Makes base (c1 ++ c2) (o1 ++ o2) := fun tn pre rest h => by
  rw [List.length_append] at h
  rw [List.append_assoc, h1 tn pre (c2 ++ rest) (by omega), h2 tn (pre ++ o1) rest (by rw [List.length_append]; omega), List.append_assoc]
theorem makes_step {base : List UInt8} {x : UInt8} {args out : List UInt8} (h : ∀ (tn : Nat) (pre rest : List UInt8), pre.length + out.length ≤ tn → stepS base tn pre x (args ++ rest) = (0, pre ++ out, rest)) : Makes base (x :: args) out := fun tn pre rest hl => by
  rw [List.cons_append, List.length_cons, runD, h tn pre rest hl, if_neg (by simp)]
  exact runD_fuel base tn _ _ (pre ++ out) rest (by rw [List.length_append]; exact hl) (by rw [List.length_append]; omega) (by omega)
theorem makes_lit {base p : List UInt8} {y : UInt8} (hy : y.toNat = p.length) (h1 : 1 ≤ p.length) (h2 : p.length ≤ 127) : Makes base (y :: p) p := makes_step fun tn pre rest hl => by
  unfold stepS
  rw [if_neg (by omega), if_neg (by omega), if_neg (by rw [List.length_append]; omega), hy, List.take_left, List.drop_left]
theorem makes_cp {base args : List UInt8} {x : UInt8} {at_ k : Nat} (hx : 128 ≤ x.toNat) (hp : ∀ rest, placeS (x.toNat % 128) (args ++ rest) = some (at_, k, rest)) (hr : at_ + k ≤ base.length) : Makes base (x :: args) ((base.drop at_).take k) := makes_step fun tn pre rest hl => by
  have e : ((base.drop at_).take k).length = k := by rw [List.length_take, List.length_drop]; omega
  rw [e] at hl
  unfold stepS
  rw [if_pos hx, hp rest]
  dsimp only
  rw [if_neg (by omega)]
/-- What waits is inserted as it is. -/
theorem makes_flush (base : List UInt8) : ∀ (f : Nat) (l : List UInt8), l.length ≤ f → Makes base (flushF f l) l
  | 0, l, h => by
    obtain rfl : l = [] := List.eq_nil_of_length_eq_zero (by omega)
    exact Makes.nil base
  | f + 1, l, h => by
    rw [flushF]
    by_cases h0 : l.length = 0
    · rw [if_pos h0]
      obtain rfl : l = [] := List.eq_nil_of_length_eq_zero h0
      exact Makes.nil base
    · rw [if_neg h0]
      have hl : (l.take (min 127 l.length)).length = min 127 l.length := by rw [List.length_take]; omega
      have h1 := makes_lit (base := base) (p := l.take (min 127 l.length)) (y := UInt8.ofNat (min 127 l.length)) (by rw [hl, UInt8.toNat_ofNat']; omega) (by omega) (by omega)
      have h2 := makes_flush base f (l.drop (min 127 l.length)) (by rw [List.length_drop]; omega)
      have := h1.app h2
      rwa [List.take_append_drop] at this
theorem makes_flushS (base l : List UInt8) : Makes base (flushS l) l := makes_flush base _ l (Nat.le_refl _)
/-! ### A number's bytes, and back -/
theorem enc4 (v : Nat) (hv : v < 4294967296) (t : List UInt8) : fieldS 4 (emask v 4) (ebytes v 4 ++ t) = some (v, t) := by
  obtain ⟨x0, h0⟩ : ∃ x : UInt8, x.toNat = v % 256 := ⟨UInt8.ofNat (v % 256), by rw [UInt8.toNat_ofNat']; omega⟩
  obtain ⟨x1, h1⟩ : ∃ x : UInt8, x.toNat = v / 256 % 256 := ⟨UInt8.ofNat (v / 256 % 256), by rw [UInt8.toNat_ofNat']; omega⟩
  obtain ⟨x2, h2⟩ : ∃ x : UInt8, x.toNat = v / 65536 % 256 := ⟨UInt8.ofNat (v / 65536 % 256), by rw [UInt8.toNat_ofNat']; omega⟩
  obtain ⟨x3, h3⟩ : ∃ x : UInt8, x.toNat = v / 16777216 % 256 := ⟨UInt8.ofNat (v / 16777216 % 256), by rw [UInt8.toNat_ofNat']; omega⟩
  have e : v = x0.toNat + x1.toNat * 256 + x2.toNat * 65536 + x3.toNat * 16777216 := by omega
  have m : emask v 4 = (if x0.toNat = 0 then 0 else 1) + (if x1.toNat = 0 then 0 else 2) + (if x2.toNat = 0 then 0 else 4) + (if x3.toNat = 0 then 0 else 8) := by
    simp [emask, h0, h1, h2, h3]
  have b : ebytes v 4 = (if x0.toNat = 0 then [] else [x0]) ++ (if x1.toNat = 0 then [] else [x1]) ++ (if x2.toNat = 0 then [] else [x2]) ++ (if x3.toNat = 0 then [] else [x3]) := by
    simp only [ebytes, Nat.mul_zero, Nat.pow_zero, Nat.div_one, List.nil_append, show 2 ^ (8 * 1) = 256 by decide, show 2 ^ (8 * 2) = 65536 by decide, show 2 ^ (8 * 3) = 16777216 by decide, ← h0, ← h1, ← h2, ← h3, UInt8.ofNat_toNat]
  rw [m, b, e]
  clear e m b h0 h1 h2 h3 hv
  by_cases z0 : x0.toNat = 0 <;> by_cases z1 : x1.toNat = 0 <;> by_cases z2 : x2.toNat = 0 <;> by_cases z3 : x3.toNat = 0 <;> simp [z0, z1, z2, z3, fieldS, fieldD]
theorem enc3 (v : Nat) (hv : v < 16777216) (t : List UInt8) : fieldS 3 (emask v 3) (ebytes v 3 ++ t) = some (v, t) := by
  obtain ⟨x0, h0⟩ : ∃ x : UInt8, x.toNat = v % 256 := ⟨UInt8.ofNat (v % 256), by rw [UInt8.toNat_ofNat']; omega⟩
  obtain ⟨x1, h1⟩ : ∃ x : UInt8, x.toNat = v / 256 % 256 := ⟨UInt8.ofNat (v / 256 % 256), by rw [UInt8.toNat_ofNat']; omega⟩
  obtain ⟨x2, h2⟩ : ∃ x : UInt8, x.toNat = v / 65536 % 256 := ⟨UInt8.ofNat (v / 65536 % 256), by rw [UInt8.toNat_ofNat']; omega⟩
  have e : v = x0.toNat + x1.toNat * 256 + x2.toNat * 65536 := by omega
  have m : emask v 3 = (if x0.toNat = 0 then 0 else 1) + (if x1.toNat = 0 then 0 else 2) + (if x2.toNat = 0 then 0 else 4) := by
    simp [emask, h0, h1, h2]
  have b : ebytes v 3 = (if x0.toNat = 0 then [] else [x0]) ++ (if x1.toNat = 0 then [] else [x1]) ++ (if x2.toNat = 0 then [] else [x2]) := by
    simp only [ebytes, Nat.mul_zero, Nat.pow_zero, Nat.div_one, List.nil_append, show 2 ^ (8 * 1) = 256 by decide, show 2 ^ (8 * 2) = 65536 by decide, ← h0, ← h1, ← h2, UInt8.ofNat_toNat]
  rw [m, b, e]
  clear e m b h0 h1 h2 hv
  by_cases z0 : x0.toNat = 0 <;> by_cases z1 : x1.toNat = 0 <;> by_cases z2 : x2.toNat = 0 <;> simp [z0, z1, z2, fieldS, fieldD]
theorem makes_cpB {base : List UInt8} {at_ k : Nat} (h0 : at_ < 4294967296) (h1 : 1 ≤ k) (h2 : k ≤ 65536) (hr : at_ + k ≤ base.length) : Makes base (cpB at_ k) ((base.drop at_).take k) := by
  have m4 := emask_lt at_ 4
  have m3 := emask_lt (szOf k) 3
  have hy : (UInt8.ofNat (128 + emask at_ 4 + 16 * emask (szOf k) 3)).toNat = 128 + emask at_ 4 + 16 * emask (szOf k) 3 := by rw [UInt8.toNat_ofNat']; omega
  refine makes_cp (by rw [hy]; omega) (fun rest => ?_) hr
  have hp := place_fields (128 + emask at_ 4 + 16 * emask (szOf k) 3) (ebytes at_ 4 ++ ebytes (szOf k) 3 ++ rest)
  have g4 : (128 + emask at_ 4 + 16 * emask (szOf k) 3) % 16 = emask at_ 4 := by omega
  have g3 : (128 + emask at_ 4 + 16 * emask (szOf k) 3) / 16 % 8 = emask (szOf k) 3 := by omega
  rw [g4, g3, List.append_assoc, enc4 at_ h0] at hp
  dsimp only at hp
  rw [enc3 (szOf k) (by unfold szOf; split <;> omega)] at hp
  dsimp only at hp
  rw [hy, List.append_assoc, hp]
  unfold szOf
  by_cases hk : k < 65536
  · rw [if_pos hk, if_neg (by omega)]
  · rw [if_neg hk, if_pos rfl, show k = 65536 by omega]
theorem makes_copyF {base : List UInt8} (hb : base.length ≤ 4294967296) : ∀ (f at_ n : Nat), n ≤ f → at_ + n ≤ base.length → Makes base (copyF f at_ n) ((base.drop at_).take n)
  | 0, at_, n, h, _ => by
    obtain rfl : n = 0 := by omega
    rw [List.take_zero]
    exact Makes.nil base
  | f + 1, at_, n, h, hr => by
    rw [copyF]
    by_cases h0 : n = 0
    · rw [if_pos h0, h0, List.take_zero]
      exact Makes.nil base
    · rw [if_neg h0]
      have h1 := makes_cpB (base := base) (at_ := at_) (k := min n 65536) (by omega) (by omega) (by omega) (by omega)
      have h2 := makes_copyF hb f (at_ + min n 65536) (n - min n 65536) (by omega) (by omega)
      have h3 := h1.app h2
      have e : (base.drop at_).take (min n 65536) ++ (base.drop (at_ + min n 65536)).take (n - min n 65536) = (base.drop at_).take n := by
        have hs : n = min n 65536 + (n - min n 65536) := by omega
        conv => rhs; rw [hs, List.take_add, List.drop_drop]
      rwa [e] at h3
theorem makes_copyS {base : List UInt8} (hb : base.length ≤ 4294967296) {at_ n : Nat} (hr : at_ + n ≤ base.length) : Makes base (copyS at_ n) ((base.drop at_).take n) := makes_copyF hb n at_ n (Nat.le_refl _) hr
/-! ### Lengths -/
theorem copyF_len : ∀ (f at_ n : Nat), (copyF f at_ n).length ≤ 8 * (n / 65536) + (if n % 65536 = 0 then 0 else 7)
  | 0, at_, n => by simp [copyF]
  | f + 1, at_, n => by
    rw [copyF]
    by_cases h0 : n = 0
    · rw [if_pos h0]; simp
    · rw [if_neg h0, List.length_append]
      have h2 := copyF_len f (at_ + min n 65536) (n - min n 65536)
      by_cases hk : n < 65536
      · have hm : min n 65536 = n := by omega
        rw [hm] at h2 ⊢
        have h3 : (copyF f (at_ + n) (n - n)).length ≤ 0 := by rw [Nat.sub_self] at h2 ⊢; simpa using h2
        have h4 := ebytes_len at_ 4
        have h5 : (ebytes (szOf n) 3).length ≤ 2 := by
          have h6 := ebytes_len n 2
          rw [show szOf n = n from if_pos hk, ebytes, if_pos (by rw [Nat.div_eq_of_lt (by simpa using hk)]), List.append_nil]
          exact h6
        rw [cpB, List.length_cons, List.length_append, if_neg (by omega)]
        omega
      · have hm : min n 65536 = 65536 := by omega
        rw [hm] at h2 ⊢
        have h4 := cpB_len at_ 65536
        have e1 : (n - 65536) / 65536 = n / 65536 - 1 := by omega
        have e2 : (n - 65536) % 65536 = n % 65536 := by omega
        rw [e1, e2] at h2
        omega
theorem copyS_len (at_ n : Nat) : (copyS at_ n).length ≤ 8 * (n / 65536) + 7 := by
  have := copyF_len n at_ n
  unfold copyS
  split at this <;> omega
theorem numB_small : ∀ (f n k : Nat), n < 128 ^ (k + 1) → (numB f n).length ≤ k + 1
  | 0, n, k, _ => by simp [numB]
  | f + 1, n, k, h => by
    rw [numB]
    split
    · rcases k with _ | k
      · simp at h; omega
      · have := numB_small f (n / 128) k (Nat.div_lt_of_lt_mul (by rw [Nat.mul_comm, ← Nat.pow_succ]; exact h))
        simp only [List.length_cons]
        omega
    · simp
theorem numS_three {n : Nat} (h : n < 2097152) : (numS n).length ≤ 3 := numB_small 9 n 2 (by simpa using h)
end Go.Proofs.Ytiiolpchefldlaa
