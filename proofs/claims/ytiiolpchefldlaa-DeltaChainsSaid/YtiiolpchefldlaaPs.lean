import Derived.Test.YtiiolpchefldlaaPn
import Derived.Test.YtiiolpchefldlaaRz
namespace Go.Proofs.Ytiiolpchefldlaa

/-! ### Both Sizes answer alike -/
theorem numD_suffix : ∀ (f i v : Nat) (b : List UInt8), (numD f i v b).2.2 = 0 → ∃ p, b = p ++ (numD f i v b).2.1
  | 0, i, v, b, h => by simp [numD] at h
  | f + 1, i, v, [], h => by simp [numD] at h
  | f + 1, i, v, c :: r, h => by
    rw [numD] at h ⊢
    by_cases hc : c.toNat < 128
    · rw [if_pos hc] at h ⊢
      by_cases hb : 2147483647 < v + c.toNat % 128 * 2 ^ (7 * i)
      · rw [if_pos hb] at h; simp at h
      · rw [if_neg hb]; exact ⟨[c], rfl⟩
    · rw [if_neg hc] at h ⊢
      obtain ⟨p, hp⟩ := numD_suffix f (i + 1) _ r h
      exact ⟨c :: p, by rw [List.cons_append, ← hp]⟩
theorem numDS_drop (b : List UInt8) (h : (numDS b).2.2 = 0) : b.drop (b.length - (numDS b).2.1.length) = (numDS b).2.1 := by
  obtain ⟨p, hp⟩ := numD_suffix 5 0 0 b h
  have hp : b = p ++ (numDS b).2.1 := hp
  generalize (numDS b).2.1 = t at hp
  subst hp
  rw [List.length_append, Nat.add_sub_cancel, List.drop_left]
theorem sizes_same (b : List UInt8) : (rsizesS b).1 = (sizesS b).1 ∧ (rsizesS b).2.1 = (sizesS b).2.1 ∧ (rsizesS b).2.2.2 = (sizesS b).2.2.2 := by
  unfold rsizesS sizesS rnumS
  dsimp only
  by_cases h : (numDS b).2.2 = 0
  · have hd := numDS_drop b h
    by_cases h2 : (numDS (numDS b).2.1).2.2 = 0
    · simp [h, hd, h2]
    · simp [h, hd, h2]
  · simp [h]
end Go.Proofs.Ytiiolpchefldlaa
