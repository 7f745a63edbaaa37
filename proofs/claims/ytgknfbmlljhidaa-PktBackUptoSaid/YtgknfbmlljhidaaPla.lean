import Derived.Test.YtgknfbmlljhidaaDec
namespace Go.Proofs.Ytgknfbmlljhidaa

/-! ### Digits -/
theorem hexv_dgt (k : Nat) (h : k < 16) : hexv (dgt k) = some k := by
  have key : ∀ k : Fin 16, hexv (dgt k.val) = some k.val := by decide +kernel
  exact key ⟨k, h⟩
theorem num_hex4 (n : Nat) (h : n < 65536) : num (hex4 n) 0 = some n := by
  simp only [hex4, num, hexv_dgt _ (Nat.mod_lt _ (by decide : 16 > 0))]
  congr 1
  omega
theorem sizeS_hex4 (n : Nat) (h : n < 65536) (h3 : n ≠ 3) (h4 : n ≠ 4) : sizeS (hex4 n) = some n := by
  rw [sizeS, num_hex4 n h]
  simp [h3, h4]
theorem hex4_length (n : Nat) : (hex4 n).length = 4 := rfl

/-! ### Decode, from the front -/
abbrev Res := List (Int × List UInt8) × Nat × Nat
def Dcons (x : Int × List UInt8) (m : Nat) (r : Res) : Res := if r.2.2 = 0 then (x :: r.1, m + r.2.1, 0) else ([], 0, r.2.2)
def D : Nat → List UInt8 → Res
  | 0, _ => ([], 0, 0)
  | f + 1, b =>
    if b.length < 4 then ([], 0, 0)
    else match sizeS (b.take 4) with
      | none => ([], 0, 3)
      | some n =>
        if 65520 < n then ([], 0, 5)
        else if n < 3 then Dcons (2 + (n : Int), []) 4 (D f (b.drop 4))
        else if b.length < n then ([], 0, 0)
        else Dcons (1, (b.drop 4).take (n - 4)) n (D f (b.drop n))
def Dout (l : List (Int × List UInt8)) (p : Nat) (r : Res) : Res := if r.2.2 = 0 then (l ++ r.1, p + r.2.1, 0) else ([], 0, r.2.2)
theorem Dout_cons (l : List (Int × List UInt8)) (p m : Nat) (x : Int × List UInt8) (r : Res) : Dout (l ++ [x]) (p + m) r = Dout l p (Dcons x m r) := by
  unfold Dout Dcons
  by_cases h : r.2.2 = 0
  · simp [h, Nat.add_assoc]
  · simp [h]
theorem decL_D (b : List UInt8) : ∀ (f p : Nat) (l : List (Int × List UInt8)), p ≤ b.length → decL b f p l = Dout l p (D f (b.drop p))
  | 0, p, l, hp => by simp [decL, D, Dout]
  | f + 1, p, l, hp => by
    have hlen : (b.drop p).length = b.length - p := List.length_drop
    rw [decL, D, hlen]
    by_cases h4 : b.length < p + 4
    · rw [if_pos h4, if_pos (by omega)]
      simp [Dout]
    · rw [if_neg h4, if_neg (by omega)]
      cases hz : sizeS ((b.drop p).take 4) with
      | none => simp [Dout]
      | some n =>
        simp only
        by_cases h5 : 65520 < n
        · simp [h5, Dout]
        · rw [if_neg h5, if_neg h5]
          by_cases h3 : n < 3
          · rw [if_pos h3, if_pos h3, decL_D b f (p + 4) _ (by omega), Dout_cons, List.drop_drop]
          · rw [if_neg h3, if_neg h3]
            by_cases hn : b.length < p + n
            · rw [if_pos hn, if_pos (by omega)]
              simp [Dout]
            · rw [if_neg hn, if_neg (by omega), decL_D b f (p + n) _ (by omega), Dout_cons, List.drop_drop, List.drop_drop]
theorem decS_D (b : List UInt8) : decS b = D (b.length + 1) b := by
  have h := decL_D b (b.length + 1) 0 [] (Nat.zero_le _)
  rw [List.drop_zero] at h
  rw [decS, h]
  unfold Dout
  by_cases he : (D (b.length + 1) b).2.2 = 0
  · rw [if_pos he]
    rw [List.nil_append, Nat.zero_add]
    exact Prod.ext rfl (Prod.ext rfl he.symm)
  · rw [if_neg he]
    have key : ∀ (f : Nat) (b : List UInt8), (D f b).2.2 ≠ 0 → (D f b).1 = [] ∧ (D f b).2.1 = 0 := by
      intro f
      induction f with
      | zero => intro b h; simp [D] at h
      | succ f ih =>
        intro b h
        rw [D] at h ⊢
        split at h
        · simp at h
        · rename_i h4
          rw [if_neg h4]
          split at h
          · simp
          · rename_i n hn
            split at h
            · rename_i h5; simp [h5]
            · rename_i h5
              rw [if_neg h5]
              split at h
              · rename_i h3
                rw [if_pos h3]
                unfold Dcons at h ⊢
                split at h
                · simp at h
                · rename_i hx; simp [hx]
              · rename_i h3
                rw [if_neg h3]
                split at h
                · simp at h
                · rename_i h6
                  rw [if_neg h6]
                  unfold Dcons at h ⊢
                  split at h
                  · simp at h
                  · rename_i hx; simp [hx]
    obtain ⟨h1, h2⟩ := key _ _ he
    exact Prod.ext h1.symm (Prod.ext h2.symm rfl)

/-! ### A line as bytes -/
def encOne (x : Int × List UInt8) : List UInt8 := if x.1 = 1 then hex4 (x.2.length + 4) ++ x.2 else [48, 48, 48, UInt8.ofNat (46 + x.1.toNat)]
def okLn (x : Int × List UInt8) : Prop := (x.1 = 1 ∧ x.2 ≠ [] ∧ x.2.length ≤ 65516) ∨ ((x.1 = 2 ∨ x.1 = 3 ∨ x.1 = 4) ∧ x.2 = [])
theorem encL_ok : ∀ (ls : List (Int × List UInt8)) (out : List UInt8), (∀ x ∈ ls, okLn x) → encL ls out = (out ++ ls.flatMap encOne, 0)
  | [], out, _ => by simp [encL]
  | (k, d) :: r, out, h => by
    have hx := h (k, d) (List.mem_cons_self ..)
    have hr := fun out => encL_ok r out (fun x hx => h x (List.mem_cons_of_mem _ hx))
    rw [encL]
    rcases hx with ⟨h1, h2, h3⟩ | ⟨h1, h2⟩
    · simp only at h1 h2 h3
      subst h1
      rw [if_neg (by simp [h2]), if_neg (by simp), if_neg (by omega), hr]
      simp [encOne]
    · simp only at h1 h2
      subst h2
      rw [if_neg (by omega), if_pos (by omega), hr]
      simp [encOne, show k ≠ 1 by omega]
theorem encL_err : ∀ (ls : List (Int × List UInt8)) (out : List UInt8), (encL ls out).2 = 0 → ∀ x ∈ ls, (x.1 = 1 ∧ x.2 ≠ [] ∧ x.2.length ≤ 65516) ∨ (x.1 = 2 ∨ x.1 = 3 ∨ x.1 = 4)
  | [], out, _, x, hx => by cases hx
  | (k, d) :: r, out, h, x, hx => by
    rw [encL] at h
    split at h
    · simp at h
    · rename_i h1
      split at h
      · rename_i h2
        rcases List.mem_cons.1 hx with rfl | hx
        · right; simp only; omega
        · exact encL_err r _ h x hx
      · rename_i h2
        split at h
        · simp at h
        · rename_i h3
          rcases List.mem_cons.1 hx with rfl | hx
          · left
            have : k = 1 := by omega
            refine ⟨this, fun hd => h1 (.inr (.inr ⟨this, hd⟩)), by simp only; omega⟩
          · exact encL_err r _ h x hx
theorem encL_bad : ∀ (ls : List (Int × List UInt8)) (out : List UInt8), (encL ls out).2 ≠ 0 → (encL ls out).1 = []
  | [], out, h => by simp [encL] at h
  | (k, d) :: r, out, h => by
    rw [encL] at h ⊢
    split at h
    · rename_i h1; rw [if_pos h1]
    · rename_i h1
      rw [if_neg h1]
      split at h
      · rename_i h2; rw [if_pos h2]; exact encL_bad r _ h
      · rename_i h2
        rw [if_neg h2]
        split at h
        · rename_i h3; rw [if_pos h3]
        · rename_i h3; rw [if_neg h3]; exact encL_bad r _ h

/-- One line at the front is read. -/
theorem D_step (x : Int × List UInt8) (hx : okLn x) (f : Nat) (rest : List UInt8) : D (f + 1) (encOne x ++ rest) = Dcons x (encOne x).length (D f rest) := by
  obtain ⟨k, d⟩ := x
  rcases hx with ⟨h1, h2, h3⟩ | ⟨h1, h2⟩
  · simp only at h1 h2 h3
    subst h1
    have e1 : encOne ((1 : Int), d) = hex4 (d.length + 4) ++ d := by simp [encOne]
    have hpos : 0 < d.length := List.length_pos_iff.2 h2
    have hl : (encOne ((1 : Int), d) ++ rest).length = d.length + 4 + rest.length := by rw [e1]; simp [hex4]; omega
    rw [D, hl, if_neg (by omega), e1]
    have e4 : (hex4 (d.length + 4) ++ d ++ rest).take 4 = hex4 (d.length + 4) := by simp [hex4]
    rw [e4, sizeS_hex4 _ (by omega) (by omega) (by omega)]
    simp only [if_neg (show ¬ 65520 < d.length + 4 by omega), if_neg (show ¬ d.length + 4 < 3 by omega), if_neg (show ¬ d.length + 4 + rest.length < d.length + 4 by omega)]
    have e5 : ((hex4 (d.length + 4) ++ d ++ rest).drop 4).take (d.length + 4 - 4) = d := by simp [hex4]
    have e6 : (hex4 (d.length + 4) ++ d ++ rest).drop (d.length + 4) = rest := by simp [hex4]
    have e7 : (hex4 (d.length + 4) ++ d).length = d.length + 4 := by simp [hex4]
    rw [e5, e6, e7]
  · simp only at h1 h2
    subst h2
    have e1 : encOne (k, ([] : List UInt8)) = hex4 (k.toNat - 2) := by
      rcases h1 with rfl | rfl | rfl <;> decide +kernel
    have hk : k.toNat - 2 < 3 := by omega
    have hk2 : (2 : Int) + ((k.toNat - 2 : Nat) : Int) = k := by omega
    have hl : (encOne (k, ([] : List UInt8)) ++ rest).length = 4 + rest.length := by rw [e1]; simp [hex4]; omega
    rw [D, hl, if_neg (by omega), e1]
    have e4 : (hex4 (k.toNat - 2) ++ rest).take 4 = hex4 (k.toNat - 2) := by simp [hex4]
    rw [e4, sizeS_hex4 _ (by omega) (by omega) (by omega)]
    simp only [if_neg (show ¬ 65520 < k.toNat - 2 by omega), if_pos hk]
    have e6 : (hex4 (k.toNat - 2) ++ rest).drop 4 = rest := by simp [hex4]
    rw [e6, hk2]
    rfl
theorem encOne_len (x : Int × List UInt8) : 4 ≤ (encOne x).length := by
  unfold encOne
  split
  · simp [hex4]
  · simp
/-- A line that is cut off is not read. -/
theorem D_cut (x : Int × List UInt8) (hx : okLn x) (f k : Nat) (hk : k < (encOne x).length) (rest : List UInt8) : D f ((encOne x ++ rest).take k) = ([], 0, 0) := by
  rcases f with _ | f
  · rfl
  · have hl : ((encOne x ++ rest).take k).length = k := by rw [List.length_take, List.length_append]; omega
    rw [D, hl]
    by_cases h4 : k < 4
    · rw [if_pos h4]
    · rw [if_neg h4]
      obtain ⟨j, d⟩ := x
      rcases hx with ⟨h1, h2, h3⟩ | ⟨h1, h2⟩
      · simp only at h1 h2 h3
        subst h1
        have e1 : encOne ((1 : Int), d) = hex4 (d.length + 4) ++ d := by simp [encOne]
        have e7 : (hex4 (d.length + 4) ++ d).length = d.length + 4 := by simp [hex4]
        rw [e1] at hk
        have hpos : 0 < d.length := List.length_pos_iff.2 h2
        rw [e1, List.take_take, Nat.min_eq_left (by omega)]
        have e4 : (hex4 (d.length + 4) ++ d ++ rest).take 4 = hex4 (d.length + 4) := by simp [hex4]
        rw [e4, sizeS_hex4 _ (by omega) (by omega) (by omega)]
        simp only [if_neg (show ¬ 65520 < d.length + 4 by omega), if_neg (show ¬ d.length + 4 < 3 by omega), if_pos (show k < d.length + 4 by omega)]
      · simp only at h1 h2
        subst h2
        have : (encOne (j, ([] : List UInt8))).length = 4 := by
          unfold encOne
          rw [if_neg (by simp only; omega)]
          rfl
        omega
abbrev encs (ls : List (Int × List UInt8)) : List UInt8 := ls.flatMap encOne
theorem D_full : ∀ (ls : List (Int × List UInt8)), (∀ x ∈ ls, okLn x) → ∀ f, ls.length < f → D f (encs ls) = (ls, (encs ls).length, 0)
  | [], _, f, hf => by
    obtain ⟨f, rfl⟩ : ∃ f', f = f' + 1 := ⟨f - 1, by simp at hf; omega⟩
    simp [D]
  | x :: r, h, f, hf => by
    obtain ⟨f, rfl⟩ : ∃ f', f = f' + 1 := ⟨f - 1, by simp at hf; omega⟩
    have hr := D_full r (fun y hy => h y (List.mem_cons_of_mem _ hy)) f (by simp at hf; omega)
    have e : encs (x :: r) = encOne x ++ encs r := by simp [encs]
    rw [e, D_step x (h x (List.mem_cons_self ..)), hr, Dcons]
    simp
theorem encs_len : ∀ (ls : List (Int × List UInt8)), ls.length ≤ (encs ls).length
  | [] => by simp
  | x :: r => by
    have e : encs (x :: r) = encOne x ++ encs r := by simp [encs]
    have := encs_len r
    have := encOne_len x
    rw [e, List.length_append, List.length_cons]
    omega
theorem D_prefix : ∀ (ls : List (Int × List UInt8)), (∀ x ∈ ls, okLn x) → ∀ k f, k ≤ (encs ls).length → k < f → ∃ l1 l2, ls = l1 ++ l2 ∧ D f ((encs ls).take k) = (l1, (encs l1).length, 0) ∧ (encs l1).length ≤ k
  | [], _, k, f, hk, hf => by
    obtain ⟨f, rfl⟩ : ∃ f', f = f' + 1 := ⟨f - 1, by omega⟩
    exact ⟨[], [], rfl, by simp [D], by simp⟩
  | x :: r, h, k, f, hk, hf => by
    have e : encs (x :: r) = encOne x ++ encs r := by simp [encs]
    have hx := h x (List.mem_cons_self ..)
    rw [e] at hk ⊢
    by_cases hm : k < (encOne x).length
    · exact ⟨[], x :: r, rfl, by rw [D_cut x hx f k hm]; rfl, by simp⟩
    · obtain ⟨f, rfl⟩ : ∃ f', f = f' + 1 := ⟨f - 1, by omega⟩
      have h4 := encOne_len x
      rw [List.length_append] at hk
      obtain ⟨l1, l2, h1, h2, h3⟩ := D_prefix r (fun y hy => h y (List.mem_cons_of_mem _ hy)) (k - (encOne x).length) f (by omega) (by omega)
      refine ⟨x :: l1, l2, by rw [h1]; rfl, ?_, ?_⟩
      · rw [List.take_append, List.take_of_length_le (by omega), D_step x hx, h2, Dcons]
        simp [encs]
      · have e2 : encs (x :: l1) = encOne x ++ encs l1 := by simp [encs]
        rw [e2, List.length_append]
        omega
theorem dec_full (ls : List (Int × List UInt8)) (h : ∀ x ∈ ls, okLn x) : decS (encs ls) = (ls, (encs ls).length, 0) := by
  rw [decS_D]
  exact D_full ls h _ (by have := encs_len ls; omega)
theorem dec_prefix (ls : List (Int × List UInt8)) (h : ∀ x ∈ ls, okLn x) (k : Nat) (hk : k ≤ (encs ls).length) : ∃ l1 l2, ls = l1 ++ l2 ∧ decS ((encs ls).take k) = (l1, (encs l1).length, 0) ∧ (encs l1).length ≤ k := by
  rw [decS_D]
  exact D_prefix ls h k _ hk (by rw [List.length_take]; omega)
end Go.Proofs.Ytgknfbmlljhidaa
