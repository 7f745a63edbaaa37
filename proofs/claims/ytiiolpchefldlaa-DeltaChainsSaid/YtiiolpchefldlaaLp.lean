import Derived.Test.YtiiolpchefldlaaPm
import Derived.Test.YtiiolpchefldlaaFi
namespace Go.Proofs.Ytiiolpchefldlaa

/-! ### Make's great loop, in plain words -/
theorem flushF_len2 : ∀ (f : Nat) (l : List UInt8), 127 * (flushF f l).length ≤ 128 * l.length + (if l.length = 0 then 0 else 126)
  | 0, l => by simp [flushF]
  | f + 1, l => by
    rw [flushF]
    by_cases h0 : l.length = 0
    · rw [if_pos h0, if_pos h0]
      simp
    · rw [if_neg h0, if_neg h0]
      have h2 := flushF_len2 f (l.drop (min 127 l.length))
      rw [List.length_drop] at h2
      rw [List.cons_append, List.length_cons, List.length_append, List.length_take]
      by_cases hk : l.length ≤ 127
      · rw [if_pos (by omega)] at h2
        omega
      · rw [if_neg (by omega)] at h2
        omega
theorem flushS_len2 (l : List UInt8) : 127 * (flushS l).length ≤ 128 * l.length + 126 := by
  have := flushF_len2 l.length l
  unfold flushS
  split at this <;> omega
/-- Behind i bytes of the target: code makes what is made, the rest waits. -/
structure LpAt (base target code made wt : List UInt8) (i : Nat) : Prop where
  mks : Makes base code made
  eq : made ++ wt = target.take i
  len : 127 * code.length ≤ 128 * made.length
  le : i ≤ target.length
section
variable {base target code made wt : List UInt8} {i at_ back n : Nat}
theorem LpAt.start (base target : List UInt8) : LpAt base target [] [] [] 0 := ⟨Makes.nil base, rfl, by simp, Nat.zero_le _⟩
theorem LpAt.lens (h : LpAt base target code made wt i) : made.length + wt.length = i := by
  have := congrArg List.length h.eq
  rw [List.length_append, List.length_take] at this
  have := h.le
  omega
theorem LpAt.wait (h : LpAt base target code made wt i) (hi : i < target.length) : LpAt base target code made (wt ++ [target[i]]) (i + 1) :=
  ⟨h.mks, by rw [← List.append_assoc, h.eq, List.take_append_getElem], h.len, hi⟩
theorem LpAt.find (h : LpAt base target code made wt i) (hg : Good base target i wt.length at_ back n) (hb : base.length ≤ 4294967296) :
    LpAt base target (code ++ flushS (wt.take (wt.length - back)) ++ copyS (at_ - back) (back + n)) (target.take (i + n)) [] (i + n) := by
  have hl := h.lens
  have hbw := hg.bw
  have hba := hg.ba
  have hr1 := hg.r1
  have hr2 := hg.r2
  have hn := hg.n16
  have hpiece : (base.drop (at_ - back)).take (back + n) = (target.drop (i - back)).take (back + n) := by
    rw [List.take_add, List.take_add, List.drop_drop, List.drop_drop, show at_ - back + back = at_ by omega, show i - back + back = i by omega, hg.beq, hg.eq]
  have hm := (h.mks.app (makes_flushS base (wt.take (wt.length - back)))).app (makes_copyS (base := base) hb (at_ := at_ - back) (n := back + n) (by omega))
  have hw : made ++ wt.take (wt.length - back) = target.take (i - back) := by
    have h1 := congrArg (List.take (i - back)) h.eq
    rw [List.take_take, Nat.min_eq_left (by omega), List.take_append, show i - back - made.length = wt.length - back by omega, List.take_of_length_le (by omega)] at h1
    exact h1
  have hall : made ++ wt.take (wt.length - back) ++ (base.drop (at_ - back)).take (back + n) = target.take (i + n) := by
    rw [hw, hpiece, ← List.take_add, show i - back + (back + n) = i + n by omega]
  rw [hall] at hm
  refine ⟨hm, by simp, ?_, by omega⟩
  have h1 := flushS_len2 (wt.take (wt.length - back))
  have h2 := copyS_len (at_ - back) (back + n)
  have h3 := h.len
  rw [List.length_take] at h1
  rw [List.length_append, List.length_append, List.length_take]
  omega
theorem LpAt.done (h : LpAt base target code made wt i) (hi : i = target.length) : Makes base (code ++ flushS wt) target ∧ 127 * (code ++ flushS wt).length ≤ 128 * target.length + 126 := by
  have hl := h.lens
  have h1 := flushS_len2 wt
  have h2 := h.len
  have hm := h.mks.app (makes_flushS base wt)
  have e := h.eq
  rw [hi, List.take_length] at e
  rw [e] at hm
  refine ⟨hm, ?_⟩
  rw [List.length_append]
  omega
end
end Go.Proofs.Ytiiolpchefldlaa
