import Derived.Test.YtafmkjlkeffmfaaPut
namespace Go.Proofs.Ytafmkjlkeffmfaa
open Go.RowKit

/-- A slice (nil let in) of n one-cell elements at the head of a block that is known whole; its spare capacity is of no matter. -/
def Arr (w : World) (e : TypeId) (A : Option Addr) (n : Nat) (xs : List Value) : Prop :=
  xs.length = n ∧ (0 < n → ∃ g cur, A = some ⟨g, 0, none⟩ ∧ Blk w g e cur ∧ n ≤ cur.size ∧ cur.toList.take n = xs)

section
variable {w w' : World} {e : TypeId} {A : Option Addr} {n c : Nat} {xs : List Value} {F : Nat → Prop}
theorem Arr.of_own (h : w.ownsRow 0 e 1 (.slice A n c) n xs) : Arr w e A n xs := by
  refine ⟨by simpa using h.1, fun hn => ?_⟩
  rcases h.2 with ⟨_, h0⟩ | ⟨g, cap, cur, hv, _, hg, hnc, _, hcs, ht⟩
  · omega
  · injection hv with hA _ _
    exact ⟨g, cur, hA, hg, by omega, by simpa using ht⟩
theorem Arr.reads (h : Arr w e A n xs) : Reads w (fun k => A.map (·.block) = some k) 1 A n xs := by
  refine ⟨by simpa using h.1, fun hn => ?_⟩
  obtain ⟨g, cur, rfl, hb, hle, ht⟩ := h.2 hn
  refine ⟨_, rfl, rfl, hb.lt, fun j u hu => ?_⟩
  rw [Addr.add_lit, Nat.zero_add, hb.cell]
  rw [← ht, List.getElem?_take] at hu
  split at hu
  · simpa using hu
  · cases hu
theorem Arr.upd (h : Arr w e A n xs) (hu : Upd F w w') (hd : ∀ k, A.map (·.block) = some k → ¬ F k) : Arr w' e A n xs := by
  refine ⟨h.1, fun hn => ?_⟩
  obtain ⟨g, cur, rfl, hb, hle, ht⟩ := h.2 hn
  exact ⟨g, cur, rfl, hb.upd hu (hd g rfl), hle, ht⟩
theorem Arr.frozen (h : Arr w e A n xs) {k : Nat} {ad : Addr} (hA : A = some ad) (hk : k < n) : w.frozen? (ad.add k) = false := by
  obtain ⟨g, cur, rfl, hb, hle, ht⟩ := h.2 (by omega)
  injection hA with hA
  subst hA
  rw [Addr.add_lit, Nat.zero_add]
  exact hb.frozen _
end

/-- What Bytes gives: L bits as bytes, in memory of their own. -/
def BytesPost (L V : Nat) (w : World) (e : Ending) (w' : World) : Prop :=
  ∃ A, e = .returned (.slice A ((L + 7) / 8) ((L + 7) / 8)) ∧ Arr w' 5 A ((L + 7) / 8) (bv (leb ((L + 7) / 8) V)) ∧ (∀ b, A.map (·.block) = some b → w.heap.size ≤ b) ∧ Fresh w w'

set_option maxHeartbeats 400000 in
theorem bytes_any (g L V : Nat) (A : Option Addr) (c : Nat) (w : World) (h : WR w g L V A c) (hL : L ≤ 562949953421312) :
    Calls Try.prog 8 #[.pointer (some ⟨g, 0, none⟩)] w (BytesPost L V w) := by
  obtain ⟨i0, hi0, hz0, hz1, hz2⟩ := info_parts Try.info5
  have c0 := h.blk.cell 0
  simp only [List.getElem?_toArray, List.getElem?_cons_zero] at c0
  have H := Lib.hid h
  clear h
  by_cases h8 : 0 < L % 8
  · go_enter Try.func8, Try.ntmps8
    go_wp2_with (first
      | (at_builtin
         refine wpList_append_any _ rfl (.const (.slice none 0 0)) (.tmp 7) 24 rfl 5 i0 _ 1 1 Try.underlying24 hi0 hz0 hz1 hz2 rfl (by omega) (.slice none 0 0) 0 [] rfl
           ⟨by simp, .inl ⟨rfl, rfl⟩⟩ _ A (L / 8) c (bv (leb (L / 8) V)) rfl (Reads.of_own H.out.own) (bv_one _) (by unfold maxLen; omega) (by omega) ?_
         intro A1 d1 w1 hown1 hg1 hat1
         have hb1 := H.out.blk.grown hg1 (by simp [Value.ownBlock])
         have c1 := hb1.cell 1
         have c2 := hb1.cell 2
         simp only [List.getElem?_toArray, List.getElem?_cons_zero, List.getElem?_cons_succ] at c1 c2
         simp only [Nat.zero_add, List.nil_append] at hown1 hat1 ⊢
         have Ho := Lib.hid hown1
         have Hg := Lib.hid hg1
         have Ha := Lib.hid hat1
         clear hown1 hg1 hat1 hb1 c0)
      | (at_builtin
         refine wpList_append_any _ rfl (.tmp 14) (.tmp 20) 24 rfl 5 i0 _ 1 1 Try.underlying24 hi0 hz0 hz1 hz2 rfl (by omega) (.slice A1 (L / 8) d1) (L / 8) (bv (leb (L / 8) V)) rfl
           (Ho.out.alloc _) (fun _ => True) (some ⟨w1.heap.size, 0, none⟩) 1 1 _ rfl ⟨rfl, fun _ => ⟨_, rfl, trivial, by simp, cell_one_new _ _ _⟩⟩ (by simp [Value.oneCell']) (by unfold maxLen; omega) (by omega) ?_
         intro A2 d2 w2 hown2 hg2 hat2
         have hd2 := (owns_cap hown2).1
         have Ho2 := Lib.hid hown2
         have Hg2 := Lib.hid hg2
         have Ha2 := Lib.hid hat2
         clear hown2 hg2 hat2))
    go_ret
    have e1 : (L + 7) / 8 = L / 8 + 1 := by omega
    have e2 : bv (leb (L / 8) V) ++ [Value.int .u8 ((V : Int) / 256 ^ (L / 8) % 256)] = bv (leb (L / 8 + 1) V) := by
      rw [leb_snoc, bv_append]
      simp [bv]
    have ho2 := Ho2.out
    rw [e2] at ho2
    unfold BytesPost
    rw [e1]
    refine ⟨A2, rfl, Arr.of_own ho2, ?_, ?_⟩
    · intro b hb
      have hz := Hg.out.size
      rcases Ha2.out with h | h <;> rw [ownBlock_map, hb] at h
      · rcases Ha.out with h' | h'
        · rw [h'] at h; simp [Value.ownBlock] at h
        · rw [h'] at h; injection h with h; omega
      · injection h with h; simp at h; omega
    · refine ((upd_grown Hg.out).mono ?_).trans (((Fresh.to (Upd.refl w1)).alloc _).grown (F := fun i => (Value.slice A1 (L / 8) d1).ownBlock = some i) Hg2.out (fun i hi _ => hi)) ?_
      · intro i hi; simp [Value.ownBlock] at hi
      · intro i hi hi2
        rcases Ha.out with h' | h' <;> rw [h'] at hi2
        · simp [Value.ownBlock] at hi2
        · injection hi2 with hi2; omega
  · have h9 : L % 8 = 0 := by omega
    have H9 := Lib.hid h9
    clear h9
    go_enter Try.func8, Try.ntmps8
    go_wp2_with (first
      | (at_builtin
         refine wpList_append_any _ rfl (.const (.slice none 0 0)) (.tmp 7) 24 rfl 5 i0 _ 1 1 Try.underlying24 hi0 hz0 hz1 hz2 rfl (by omega) (.slice none 0 0) 0 [] rfl
           ⟨by simp, .inl ⟨rfl, rfl⟩⟩ _ A (L / 8) c (bv (leb (L / 8) V)) rfl (Reads.of_own H.out.own) (bv_one _) (by unfold maxLen; omega) (by omega) ?_
         intro A1 d1 w1 hown1 hg1 hat1
         have hb1 := H.out.blk.grown hg1 (by simp [Value.ownBlock])
         have c2 := hb1.cell 2
         simp only [List.getElem?_toArray, List.getElem?_cons_zero, List.getElem?_cons_succ] at c2
         simp only [Nat.zero_add, List.nil_append] at hown1 hat1 ⊢
         have hd1 := (owns_cap hown1).1
         have Ho := Lib.hid hown1
         have Hg := Lib.hid hg1
         have Ha := Lib.hid hat1
         clear hown1 hg1 hat1 hb1 c0))
    go_ret
    have e1 : (L + 7) / 8 = L / 8 := by omega
    unfold BytesPost
    rw [e1]
    refine ⟨A1, rfl, Arr.of_own Ho.out, ?_, ?_⟩
    · intro b hb
      rcases Ha.out with h | h <;> rw [ownBlock_map, hb] at h
      · simp [Value.ownBlock] at h
      · injection h with h; omega
    · exact (upd_grown Hg.out).mono fun i hi => by simp [Value.ownBlock] at hi

/-- The reader: n bytes b, at bits of them taken. -/
structure RD (w : World) (g : Nat) (b : List UInt8) (at_ : Nat) (A : Option Addr) (c : Nat) : Prop where
  blk : Blk w g 56 #[.slice A b.length c, .int .i64 (at_ : Int)]
  arr : Arr w 5 A b.length (bv b)

def ReadPost (b : List UInt8) (w : World) (e : Ending) (w' : World) : Prop :=
  ∃ g A c, e = .returned (.pointer (some ⟨g, 0, none⟩)) ∧ RD w' g b 0 A c ∧ w.heap.size ≤ g ∧ (∀ k, A.map (·.block) = some k → w.heap.size ≤ k) ∧ A.map (·.block) ≠ some g ∧ Fresh w w' ∧ b.length ≤ c

set_option maxHeartbeats 400000 in
theorem read_any (S : Nat → Prop) (A : Option Addr) (c : Nat) (b : List UInt8) (w : World) (h : Reads w S 1 A b.length (bv b)) (hl : b.length ≤ 140737488355328) :
    Calls Try.prog 9 #[.slice A b.length c] w (ReadPost b w) := by
  obtain ⟨i0, hi0, hz0, hz1, hz2⟩ := info_parts Try.info5
  have H := Lib.hid h
  clear h
  go_enter Try.func9, Try.ntmps9
  go_wp2_with (first
    | (at_builtin
       refine wpList_append_any _ rfl (.const (.slice none 0 0)) (.tmp 3) 24 rfl 5 i0 _ 1 1 Try.underlying24 hi0 hz0 hz1 hz2 rfl (by omega) (.slice none 0 0) 0 [] rfl
         ⟨by simp, .inl ⟨rfl, rfl⟩⟩ S A b.length c (bv b) rfl H.out (bv_one _) (by unfold maxLen; omega) (by omega) ?_
       intro A1 d1 w1 hown1 hg1 hat1
       simp only [Nat.zero_add, List.nil_append] at hown1 hat1 ⊢
       have Ho := Lib.hid hown1
       have Hg := Lib.hid hg1
       have Ha := Lib.hid hat1
       clear hown1 hg1 hat1))
  go_ret
  have hz := Hg.out.size
  refine ⟨w1.heap.size, A1, d1, rfl, ⟨Blk.new _ _ _, (Arr.of_own Ho.out).upd ((Fresh.to (Upd.refl w1)).alloc (F := fun _ => False) _) (fun _ _ h => h)⟩, hz, ?_, ?_, ?_, (owns_cap Ho.out).1⟩
  · intro k hk
    rcases Ha.out with h | h <;> rw [ownBlock_map, hk] at h
    · simp [Value.ownBlock] at h
    · injection h with h; omega
  · intro hk
    have := owns_lt Ho.out (k := w1.heap.size) (by rw [ownBlock_map]; exact hk)
    omega
  · exact (((upd_grown Hg.out).mono fun i hi => by simp [Value.ownBlock] at hi).alloc _)

theorem used_any (g : Nat) (b : List UInt8) (k : Nat) (A : Option Addr) (c : Nat) (w : World) (h : RD w g b k A c) (hk : k ≤ 1125899906842624) :
    Calls Try.prog 11 #[.pointer (some ⟨g, 0, none⟩)] w fun e w' => e = .returned (.int .i64 ((k + 7) / 8 : Nat)) ∧ w = w' := by
  have c1 := h.blk.cell 1
  simp only [List.getElem?_toArray, List.getElem?_cons_zero, List.getElem?_cons_succ] at c1
  go_enter Try.func11, Try.ntmps11
  go_wp2
  go_ret
  exact ⟨by simp, rfl⟩
end Go.Proofs.Ytafmkjlkeffmfaa
