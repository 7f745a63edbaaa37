import Derived.Test.YtafmkjlkeffmfaaRb
namespace Go.Proofs.Ytafmkjlkeffmfaa
open Go.RowKit

def RBYes (w0 w : World) (g : Nat) (b : List UInt8) (p n : Nat) (A : Option Addr) (c : Nat) (e : Ending) (w' : World) : Prop :=
  ∃ A' c', e = .returned (.tuple #[.slice A' n c', .bool true]) ∧ Arr w' 5 A' n (bv ((b.drop p).take n)) ∧ (∀ k, A'.map (·.block) = some k → w.heap.size ≤ k) ∧ ORb w0 w' g b (8 * p + 8 * n) A c ∧ Upd (fun i => i = g) w w'

theorem rrbytes_end {w0 w w1 w2 : World} {g p n : Nat} {b : List UInt8} {A A2 : Option Addr} {c d2 : Nat} (h : ORb w0 w1 g b (8 * p + 8 * n) A c) (u : Upd (fun i => i = g) w w1)
    (ho : w2.ownsRow 0 5 1 (.slice A2 n d2) n (bv ((b.drop p).take n))) (hg : w1.grownBy w2 (Value.slice none 0 0).ownBlock) (ha : (Value.slice A2 n d2).ownBlock = (Value.slice none 0 0).ownBlock ∨ (Value.slice A2 n d2).ownBlock = some w1.heap.size) :
    RBYes w0 w g b p n A c (.returned (.tuple #[.slice A2 n d2, .bool true])) w2 := by
  have hu : Fresh w1 w2 := (Upd.refl w1).grown hg (fun i hi => by simp [Value.ownBlock] at hi)
  have hnew : ∀ k, A2.map (·.block) = some k → w1.heap.size ≤ k := by
    intro k hk
    rcases ha with h | h <;> rw [ownBlock_map, hk] at h
    · simp [Value.ownBlock] at h
    · injection h with h; omega
  exact ⟨A2, d2, rfl, Arr.of_own ho, fun k hk => Nat.le_trans u.size (hnew k hk), h.fresh hu, u.trans hu (fun _ _ h => h.elim)⟩

set_option maxHeartbeats 800000 in
theorem rrbytes_yes {w0 w : World} {g k : Nat} {b : List UInt8} {A : Option Addr} {c : Nat} (h : ORb w0 w g b k A c) (n : Nat) (hl : b.length ≤ 140737488355328) (hc : b.length ≤ c) (hcm : c ≤ 9223372036854775807) (hnil : A = none → c = 0) (hk : k ≤ 8 * b.length) (hn : (k + 7) / 8 + n ≤ b.length) :
    Calls Try.prog 16 #[.pointer (some ⟨g, 0, none⟩), .int .i64 n] w (RBYes w0 w g b ((k + 7) / 8) n A c) := by
  obtain ⟨i0, hi0, hz0, hz1, hz2⟩ := info_parts Try.info5
  have H := Lib.hid h
  clear h
  obtain ⟨p, hp⟩ : ∃ p, (k + 7) / 8 = p := ⟨_, rfl⟩
  rw [hp] at hn
  have HP := Lib.hid hp
  have hk2 : k ≤ 1125899906842624 := by omega
  have hdec : ¬ (8 * (b.length : Int) - (8 * p : Nat)) / 8 < (n : Int) := by omega
  have hp8 : 8 * p ≤ 8 * b.length := by omega
  clear hp
  rcases A with _ | ad
  · have hb0 : b = [] := List.eq_nil_of_length_eq_zero (by
      rcases Nat.eq_zero_or_pos b.length with h0 | h0
      · exact h0
      · obtain ⟨_, _, hA, _⟩ := H.out.rd.arr.2 h0
        cases hA)
    obtain rfl := hnil rfl
    subst hb0
    have hp0 : p = 0 := by simp at hn; omega
    have hn0 : n = 0 := by simp at hn; omega
    subst hp0
    subst hn0
    clear hnil
    go_enter Try.func16, Try.ntmps16
    go_wp2_with fail
    refine (ralign_o H.out hk2).mono ?_
    rintro e w1 ⟨rfl, h2, u2⟩
    rw [HP.out] at h2
    have H2 := Lib.hid h2
    have c0 := h2.rd.blk.cell 0
    have c1 := h2.rd.blk.cell 1
    have f1 := h2.rd.blk.frozen 1
    simp only [List.getElem?_toArray, List.getElem?_cons_zero, List.getElem?_cons_succ] at c0 c1
    clear h2
    go_wp2_with fail
    refine (rleft_o H2.out (by simp) (by simp)).mono ?_
    rintro e w2 ⟨rfl, nq, rfl⟩
    go_wp2_with (first
      | (at_builtin
         refine wpList_append_any _ rfl (.tmp 34) (.tmp 43) 24 rfl 5 i0 _ 1 1 Try.underlying24 hi0 hz0 hz1 hz2 rfl (by omega) (.slice none 0 0) 0 [] rfl
           ⟨by simp, .inl ⟨rfl, rfl⟩⟩ (fun _ => True) _ 0 _ (bv []) rfl Reads.none_ (bv_one _) (by unfold maxLen; omega) (by omega) ?_
         intro A2 d2 w2 hown2 hg2 hat2
         simp only [Nat.zero_add, List.nil_append] at hown2 hat2 ⊢
         have Ho := Lib.hid hown2
         have Hg := Lib.hid hg2
         have Ha := Lib.hid hat2
         clear hown2 hg2 hat2))
    go_ret2
    rw [HP.out]
    exact rrbytes_end ((H2.out.fresh ((Upd.refl _).drewN nq)).move 0) (Upd.setCell (F := fun i => i = g) (p := ⟨g, 1, none⟩) (u2.drewN nq) (fun _ => rfl) _) Ho.out Hg.out Ha.out
  · clear hnil
    have hif : (if c = p then some ad else some (ad.add p)) = cutA c p ad := rfl
    have b5 : p + n - p = n := by omega
    have b6 : p + n ≤ c := by omega
    go_enter Try.func16, Try.ntmps16
    go_wp2_with fail
    refine (ralign_o H.out hk2).mono ?_
    rintro e w1 ⟨rfl, h2, u2⟩
    rw [HP.out, Nat.mul_comm p 8] at h2
    have H2 := Lib.hid h2
    have c0 := h2.rd.blk.cell 0
    have c1 := h2.rd.blk.cell 1
    have f1 := h2.rd.blk.frozen 1
    simp only [List.getElem?_toArray, List.getElem?_cons_zero, List.getElem?_cons_succ] at c0 c1
    clear h2
    go_wp2_with fail
    refine (rleft_o H2.out hl hp8).mono ?_
    rintro e w2 ⟨rfl, nq, rfl⟩
    go_wp2_with (first
      | (at_builtin
         simp only [b5]
         refine wpList_append_any _ rfl (.tmp 34) (.tmp 43) 24 rfl 5 i0 _ 1 1 Try.underlying24 hi0 hz0 hz1 hz2 rfl (by omega) (.slice none 0 0) 0 [] rfl
           ⟨by simp, .inl ⟨rfl, rfl⟩⟩ _ _ n _ (bv ((b.drop p).take n)) rfl (by rw [← bv_sub]; exact ((H2.out.rd.arr.reads.sub' p n c hn hc).drewN nq).upd (upd_set _ ⟨g, 1, none⟩ _) (fun k' hk' e => H2.out.hne (hk'.trans (congrArg some e)))) (bv_one _) (by unfold maxLen; omega) (by omega) ?_
         intro A2 d2 w2 hown2 hg2 hat2
         simp only [Nat.zero_add, List.nil_append] at hown2 hat2 ⊢
         have Ho := Lib.hid hown2
         have Hg := Lib.hid hg2
         have Ha := Lib.hid hat2
         clear hown2 hg2 hat2))
    go_ret2
    rw [HP.out]
    have hm := (H2.out.fresh ((Upd.refl _).drewN nq)).move (8 * p + 8 * n)
    rw [show ((8 * p + 8 * n : Nat) : Int) = 8 * (p : Int) + 8 * (n : Int) by omega] at hm
    exact rrbytes_end hm (Upd.setCell (F := fun i => i = g) (p := ⟨g, 1, none⟩) (u2.drewN nq) (fun _ => rfl) _) Ho.out Hg.out Ha.out
end Go.Proofs.Ytafmkjlkeffmfaa
