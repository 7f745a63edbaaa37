import Derived.Test.YtiiolpchefldlaaNd
namespace Go.Proofs.Ytiiolpchefldlaa

/-! ### A number there and back -/
theorem numD_numB : ∀ (k f i v n : Nat) (r : List UInt8), n < 128 ^ k → n < 128 ^ (f + 1) → v + n * 2 ^ (7 * i) ≤ 2147483647 → 1 ≤ k → numD k i v (numB f n ++ r) = (v + n * 2 ^ (7 * i), r, 0)
  | 0, f, i, v, n, r, _, _, _, h => by omega
  | k + 1, f, i, v, n, r, h1, h2, h3, _ => by
    by_cases hn : n ≤ 127
    · have e : numB f n = [UInt8.ofNat n] := by
        cases f with
        | zero => rfl
        | succ f => rw [numB, if_neg (by omega)]
      have e2 : (UInt8.ofNat n).toNat = n := by rw [UInt8.toNat_ofNat']; omega
      rw [e, List.cons_append, List.nil_append, numD, e2, if_pos (by omega), Nat.mod_eq_of_lt (by omega), if_neg (by omega)]
    · obtain ⟨f, rfl⟩ : ∃ g, f = g + 1 := ⟨f - 1, by
        rcases f with _ | f
        · simp at h2; omega
        · rfl⟩
      have e2 : (UInt8.ofNat (n % 128 + 128)).toNat = n % 128 + 128 := by rw [UInt8.toNat_ofNat']; omega
      have hd1 : n / 128 < 128 ^ k := Nat.div_lt_of_lt_mul (by rw [Nat.mul_comm, ← Nat.pow_succ]; exact h1)
      have hd2 : n / 128 < 128 ^ (f + 1) := Nat.div_lt_of_lt_mul (by rw [Nat.mul_comm, ← Nat.pow_succ]; exact h2)
      have hs : v + n % 128 * 2 ^ (7 * i) + n / 128 * 2 ^ (7 * (i + 1)) = v + n * 2 ^ (7 * i) := by
        rw [show 7 * (i + 1) = 7 * i + 7 by omega, Nat.pow_add, Nat.add_assoc]
        congr 1
        rw [show n / 128 * (2 ^ (7 * i) * 2 ^ 7) = (n / 128 * 128) * 2 ^ (7 * i) by rw [Nat.mul_comm (2 ^ (7 * i)), ← Nat.mul_assoc], ← Nat.add_mul]
        congr 1
        omega
      have hk : 1 ≤ k := by
        rcases k with _ | k
        · simp at hd1; omega
        · omega
      rw [numB, if_pos (by omega), List.cons_append, numD, e2, if_neg (by omega), show (n % 128 + 128) % 128 = n % 128 by omega, numD_numB k f (i + 1) _ (n / 128) r hd1 hd2 (by rw [hs]; exact h3) hk, hs]
theorem numDS_numS (n : Nat) (r : List UInt8) (h : n < 2147483648) : numDS (numS n ++ r) = (n, r, 0) := by
  have := numD_numB 5 9 0 0 n r (by omega) (by omega) (by simp; omega) (by omega)
  simpa [numDS, numS] using this
end Go.Proofs.Ytiiolpchefldlaa
