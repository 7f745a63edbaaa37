import Derived.Test.YtiiolpchefldlaaPc
import Derived.ArgAppend
namespace Go.Proofs.Ytiiolpchefldlaa
open Go.RowKit

/-! ### Bytes that wait: a slice of a block of the call's own, wherever in it -/
structure Wt (w0 w : World) (A : Option Addr) (c : Nat) (b : List UInt8) : Prop where
  le : b.length ≤ c
  cm : c ≤ 9223372036854775807
  nn : A = none → c = 0
  row : 0 < c → ∃ g off cur, A = some ⟨g, off, none⟩ ∧ Blk w g 5 cur ∧ w0.heap.size ≤ g ∧ off + c ≤ cur.size ∧ (cur.toList.drop off).take b.length = bv b
section
variable {w0 w w' : World} {A : Option Addr} {c : Nat} {b : List UInt8} {F : Nat → Prop}
theorem Wt.nil (w0 w : World) : Wt w0 w none 0 [] := ⟨Nat.le_refl _, Nat.zero_le _, fun _ => rfl, fun h => absurd h (by omega)⟩
theorem Wt.empty (h : Wt w0 w A c b) : Wt w0 w A 0 [] := ⟨Nat.le_refl _, Nat.zero_le _, fun _ => rfl, fun h => absurd h (by omega)⟩
theorem Wt.upd (h : Wt w0 w A c b) (hu : Upd F w w') (hd : 0 < c → ∀ k, A.map (·.block) = some k → ¬ F k) : Wt w0 w' A c b := ⟨h.le, h.cm, h.nn, fun hc => by
  obtain ⟨g, off, cur, rfl, hb, h1, h2, h3⟩ := h.row hc
  exact ⟨g, off, cur, rfl, hb.upd hu (hd hc g rfl), h1, h2, h3⟩⟩
theorem Wt.fresh (h : Wt w0 w A c b) (hu : Fresh w w') : Wt w0 w' A c b := h.upd hu (fun _ _ _ h => h)
theorem Wt.lt (h : Wt w0 w A c b) (hc : 0 < c) {k : Nat} (hk : A.map (·.block) = some k) : w0.heap.size ≤ k ∧ k < w.heap.size := by
  obtain ⟨g, off, cur, rfl, hb, h1, _⟩ := h.row hc
  have := hb.lt
  simp at hk
  omega
theorem Wt.ty (h : Wt w0 w A c b) (hc : 0 < c) {k : Nat} {t : TypeId} {cs : Array Value} (hk : A.map (·.block) = some k) (hb : Blk w k t cs) : t = 5 := by
  obtain ⟨g, off, cur, rfl, hb1, _⟩ := h.row hc
  obtain rfl : g = k := by simpa using hk
  by_cases e : t = 5
  · exact e
  · exact absurd rfl (Blk.ne_ hb hb1 e)
theorem Wt.of_own (h : w.ownsRow 0 5 1 (.slice A b.length c) b.length (bv b)) (hab : AB w0 A) : Wt w0 w A c b := by
  have hc := owns_cap h
  refine ⟨hc.1, by have := hc.2.2; unfold maxLen at this; omega, fun e => owns_none h e, fun h0 => ?_⟩
  rcases h.2 with ⟨hv, _⟩ | ⟨g, cap, cur, hv, _, hg, _, _, hcs, ht⟩
  · injection hv with h1 _ h2
    omega
  · injection hv with hA _ hcap
    subst hcap
    subst hA
    exact ⟨g, 0, cur, rfl, hg, hab g rfl, by omega, by simpa using ht⟩
theorem Wt.cells (h : Wt w0 w A c b) {ad : Addr} (hA : A = some ad) : ∀ j u, (bv b)[j]? = some u → w.cell? (ad.add j) = some u := by
  intro j u hu
  have hj : j < b.length := by have := (List.getElem?_eq_some_iff.1 hu).1; simpa [bv] using this
  obtain ⟨g, off, cur, he, hb, _, h2, h3⟩ := h.row (by have := h.le; omega)
  rw [hA] at he
  injection he with he
  subst he
  rw [Addr.add_lit, hb.cell]
  rw [← h3, List.getElem?_take, if_pos hj, List.getElem?_drop] at hu
  simpa using hu
theorem Wt.sl (h : Wt w0 w A c b) : Sl w A b c := by
  refine ⟨⟨by simp [bv], fun hn => ?_⟩, h.le, h.cm, h.nn⟩
  obtain ⟨g, off, cur, rfl, hb, _⟩ := h.row (by have := h.le; omega)
  exact ⟨_, rfl, trivial, hb.lt, h.cells rfl⟩
/-- s[k:] -/
theorem Wt.from_ (h : Wt w0 w A c b) {ad : Addr} (hA : A = some ad) {k : Nat} (hk : k ≤ b.length) (hc : ¬ c = k) : Wt w0 w (some (ad.add k)) (c - k) (b.drop k) := by
  have hl : (b.drop k).length = b.length - k := List.length_drop
  refine ⟨by have := h.le; omega, by have := h.cm; omega, fun e => (by cases e), fun h0 => ?_⟩
  obtain ⟨g, off, cur, he, hb, h1, h2, h3⟩ := h.row (by omega)
  rw [hA] at he
  injection he with he
  subst he
  refine ⟨g, off + k, cur, by rw [Addr.add_lit], hb, h1, by have := h.le; omega, ?_⟩
  rw [hl, ← List.drop_drop, ← List.drop_take, h3, bv, bv, List.map_drop]
/-- s[:k] -/
theorem Wt.upto (h : Wt w0 w A c b) {k : Nat} (hk : k ≤ b.length) : Wt w0 w A c (b.take k) := by
  have hl : (b.take k).length = k := by rw [List.length_take]; omega
  refine ⟨by have := h.le; omega, h.cm, h.nn, fun h0 => ?_⟩
  obtain ⟨g, off, cur, rfl, hb, h1, h2, h3⟩ := h.row h0
  refine ⟨g, off, cur, rfl, hb, h1, h2, ?_⟩
  rw [hl]
  have := congrArg (List.take k) h3
  rw [List.take_take, Nat.min_eq_left hk] at this
  rw [this, bv, bv, List.map_take]
/-- append of one byte -/
theorem run_append_wt (h : Wt w0 w A c b) (hw : w0.heap.size ≤ w.heap.size) (ty : TypeId) (x : UInt8) (a : Addr) (d : Nat) (ha : w.cell? a = some (.int .u8 (x.toNat : Int))) (hlen : b.length ≤ 1099511627776) :
    ∃ A' c' w', (Builtin.append_ #[22, 22] ty #[.slice A b.length c, .slice (some a) 1 d]).run Try.prog w = .ok (.slice A' (b.length + 1) c') w' ∧ Wt w0 w' A' c' (b ++ [x]) ∧ w.grownBy w' (if b.length < c then A.map (·.block) else none) ∧
      ((0 < c ∧ A'.map (·.block) = A.map (·.block)) ∨ ∀ k, A'.map (·.block) = some k → w.heap.size ≤ k) := by
  obtain ⟨i0, hi0, hz0, hz1, hz2⟩ := info_parts Try.info5
  have hnews : ∀ j u, (bv [x])[j]? = some u → w.cell? (a.add j) = some u := by
    intro j u hu
    have hj : j = 0 := by have := (List.getElem?_eq_some_iff.1 hu).1; simp [bv] at this; exact this
    subst hj
    rw [show a.add 0 = a from rfl, ha]
    simpa [bv] using hu
  by_cases hc : b.length < c
  · rw [if_pos hc]
    obtain ⟨g, off, cur, rfl, hb, h1, h2, h3⟩ := h.row (by omega)
    have hcell : ∀ j, j < (bv [x]).length → (w.cell? ⟨g, off + b.length * i0.size + j, none⟩).isSome = true := by
      intro j hj
      simp [bv] at hj
      subst hj
      rw [hb.cell, hz1, Nat.mul_one, Nat.add_zero, Array.getElem?_eq_getElem (by omega)]
      rfl
    have hrun := run_append_room_cells (P := Try.prog) w 22 ty 5 i0 Try.underlying22 hi0 g off b.length c a 1 d (bv [x]) (by simp [bv, hz1]) hnews (bv_one _) (by omega) hcell (fun j _ => hb.frozen _)
    rw [show w.setCells g (off + b.length * i0.size) (bv [x]) = w.setCell ⟨g, off + b.length, none⟩ (.int .u8 (x.toNat : Int)) by rw [hz1, Nat.mul_one]; rfl] at hrun
    refine ⟨_, _, _, hrun, ⟨by rw [List.length_append]; simp; omega, h.cm, fun e => (by cases e), fun _ => ⟨g, off, _, rfl, hb.set_ _ _, h1, by simpa using h2, ?_⟩⟩, ⟨rfl, rfl, rfl, by simp [World.setCell], fun k hk hn => Below.heap_setCell w _ _ k (by intro e; exact hn (by simp [e]))⟩, .inl ⟨by omega, rfl⟩⟩
    have hsz : off + b.length < cur.toList.length := by
      have e : cur.toList.length = cur.size := Array.length_toList
      omega
    rw [bv_append, ← h3, Array.toList_setIfInBounds, List.length_append, List.length_singleton]
    apply List.ext_getElem?
    intro j
    rw [List.getElem?_take, List.getElem?_drop, List.getElem?_set, List.getElem?_append, List.getElem?_take, List.getElem?_drop]
    have hl : ((cur.toList.drop off).take b.length).length = b.length := by rw [h3, bv_length]
    rw [hl]
    by_cases hj : j < b.length
    · rw [if_pos (by omega), if_neg (by omega), if_pos hj, if_pos hj]
    · by_cases hj2 : j = b.length
      · subst hj2
        rw [if_pos (by omega), if_pos rfl, if_pos hsz, if_neg hj]
        simp [bv]
      · rw [if_neg (by omega), if_neg hj]
        simp [bv]
        omega
  · rw [if_neg hc]
    have hcl : c = b.length := by have := h.le; omega
    suffices hs : ∃ A' c' w', (Builtin.append_ #[22, 22] ty #[.slice A b.length c, .slice (some a) 1 d]).run Try.prog w = .ok (.slice A' (b.length + 1) c') w' ∧ w'.ownsRow 0 5 1 (.slice A' (b.length + 1) c') (b.length + 1) (bv b ++ bv [x]) ∧ w.grownBy w' none ∧ ∀ k, A'.map (·.block) = some k → w.heap.size ≤ k by
      obtain ⟨A', c', w', h1, h2, h3, h4⟩ := hs
      refine ⟨A', c', w', h1, Wt.of_own (b := b ++ [x]) (by rw [bv_append, List.length_append]; exact h2) (fun k hk => by have := h4 k hk; omega), h3, .inr h4⟩
    rcases A with _ | ad
    · obtain rfl := h.nn rfl
      obtain rfl : b = [] := List.eq_nil_of_length_eq_zero hcl.symm
      have hlt : a.block < w.heap.size := World.block_lt_of_cell? w a ha
      obtain ⟨A', c', w', h1, h2, h3, h4⟩ := run_append_any (P := Try.prog) w 22 ty 5 i0 _ 1 1 Try.underlying22 hi0 hz0 hz1 hz2 rfl (by omega) (.slice none 0 0) 0 [] (World.ownsRow_nil _ _ _ _) (fun _ => True) (some a) 1 d (bv [x]) ⟨by simp [bv], fun _ => ⟨a, rfl, trivial, hlt, hnews⟩⟩ (bv_one _) (by unfold maxLen; omega) (by omega)
      refine ⟨A', c', w', h1, h2, h3, fun k hk => ?_⟩
      rcases h4 with e | e
      · rw [ownBlock_map, hk] at e
        cases e
      · rw [ownBlock_map, hk] at e
        injection e with e
        omega
    · obtain ⟨v', w', h1, h2, h3⟩ := run_append_arg_grows (P := Try.prog) w 22 ty 5 i0 _ 1 1 Try.underlying22 hi0 hz0 hz1 hz2 rfl (by omega) ad b.length c (bv b) (by simp [bv]) (h.cells rfl) a 1 d (bv [x]) (by simp [bv]) hnews (by omega) (by unfold maxLen; omega) (by omega)
      obtain ⟨A', c', rfl⟩ := h2.shape
      refine ⟨A', c', w', h1, ?_, h3, fun k hk => (h2.lt k (by rw [ownBlock_map]; exact hk)).1⟩
      refine ⟨h2.1, ?_⟩
      rcases h2.2 with h0 | ⟨g, cap, cur, e1, _, e3⟩
      · exact .inl h0
      · exact .inr ⟨g, cap, cur, e1, Nat.zero_le _, e3⟩
end
end Go.Proofs.Ytiiolpchefldlaa
