import Derived.Test.YtiiolpchefldlaaPc
namespace Go.Proofs.Ytiiolpchefldlaa
open Go.RowKit

/-! ### The document's field -/
def fieldD : Nat → Nat → Nat → Nat → List UInt8 → Option (Nat × List UInt8)
  | 0, _, _, v, b => some (v, b)
  | f + 1, k, i, v, b =>
    if k / 2 ^ i % 2 = 0 then fieldD f k (i + 1) v b
    else match b with
      | [] => none
      | c :: r => fieldD f k (i + 1) (v + c.toNat * 2 ^ (8 * i)) r
def fieldS (n k : Nat) (b : List UInt8) : Option (Nat × List UInt8) := fieldD n k 0 0 b
structure FdAt (n k : Nat) (b : List UInt8) (i v : Nat) (b' : List UInt8) : Prop where
  eq : fieldD (n - i) k i v b' = fieldS n k b
  lt : v < 2 ^ (8 * i)
section
variable {n k i v : Nat} {b b' r : List UInt8} {c : UInt8}
theorem FdAt.start (n k : Nat) (b : List UInt8) : FdAt n k b 0 0 b := ⟨rfl, Nat.one_pos⟩
theorem FdAt.done (h : FdAt n k b i v b') (hi : n ≤ i) : fieldS n k b = some (v, b') := by
  have e := h.eq
  rw [show n - i = 0 by omega] at e
  rw [← e]
  rfl
theorem fieldD_skip (f : Nat) (hk : k / 2 ^ i % 2 = 0) : fieldD (f + 1) k i v b = fieldD f k (i + 1) v b := by
  cases b <;> simp [fieldD, hk]
theorem fieldD_nil (f : Nat) (hk : k / 2 ^ i % 2 ≠ 0) : fieldD (f + 1) k i v [] = none := by simp [fieldD, hk]
theorem fieldD_cons (f : Nat) (hk : k / 2 ^ i % 2 ≠ 0) : fieldD (f + 1) k i v (c :: r) = fieldD f k (i + 1) (v + c.toNat * 2 ^ (8 * i)) r := by
  rw [fieldD, if_neg hk]
theorem FdAt.skip (h : FdAt n k b i v b') (hi : i < n) (hk : k / 2 ^ i % 2 = 0) : FdAt n k b (i + 1) v b' :=
  ⟨by rw [← h.eq, show n - i = (n - (i + 1)) + 1 by omega, fieldD_skip _ hk], Nat.lt_of_lt_of_le h.lt (Nat.pow_le_pow_right (by decide) (by omega))⟩
theorem FdAt.short (h : FdAt n k b i v []) (hi : i < n) (hk : k / 2 ^ i % 2 ≠ 0) : fieldS n k b = none := by
  rw [← h.eq, show n - i = (n - (i + 1)) + 1 by omega, fieldD_nil _ hk]
theorem FdAt.next (h : FdAt n k b i v (c :: r)) (hi : i < n) (hk : k / 2 ^ i % 2 ≠ 0) : FdAt n k b (i + 1) (v + c.toNat * 2 ^ (8 * i)) r :=
  ⟨by rw [← h.eq, show n - i = (n - (i + 1)) + 1 by omega, fieldD_cons _ hk], byte_pow c v i h.lt⟩
end
def FieldO (w0 : World) (r : Option (Nat × List UInt8)) (w : World) (e : Ending) (w' : World) : Prop := Fresh w w' ∧ match r with
  | none => e = .returned (.tuple #[.int .i64 0, .slice none 0 0, .bool false])
  | some (v, r) => ∃ A c, e = .returned (.tuple #[.int .i64 (v : Int), .slice A r.length c, .bool true]) ∧ Sl w0 A r c
theorem wrap_nat (z : Nat) (h : z < 9223372036854775808) : wrap64 (z : Int) = (z : Int) := by unfold wrap64; omega
theorem wrap_add (v z : Nat) (h : v < 4294967296) (h2 : z < 9000000000000000000) : wrap64 ((v : Int) + wrap64 (z : Int)) = ((v + z : Nat) : Int) := by
  rw [wrap_nat z (by omega), show (v : Int) + (z : Int) = ((v + z : Nat) : Int) by omega, wrap_nat _ (by omega)]
theorem i64_low1 (n : Nat) (h : n < 9223372036854775808) : bits .and .i64 (n : Int) 1 = ((n % 2 : Nat) : Int) := by
  have := i64_mask (n : Int) 1 (by decide)
  simp only [show (2 : Int) ^ 1 - 1 = 1 by decide] at this
  rw [this]
  omega
set_option maxHeartbeats 1600000 in
set_option maxRecDepth 100000 in
theorem field_o {A : Option Addr} {c k n : Nat} {b : List UInt8} {w0 w : World} (h : Sl w0 A b c) (hf : Fresh w0 w) (hk : k < 256) (hn : n ≤ 4) : Calls Try.prog 24 #[.slice A b.length c, .int .i64 (k : Int), .int .i64 (n : Int)] w (FieldO w0 (fieldS n k b) w) := by
  have H := Lib.hid h
  have HW0 := Lib.hid hf
  clear h hf
  go_enter Try.func24, Try.ntmps24
  go_wp2_with fail
  go_loopg [0, 9, 10] n (fun gk s0 s9 s10 wx => ∃ (i v : Nat) (A' : Option Addr) (b' : List UInt8) (c' : Nat), gk + i = n ∧ s10 = .int .i64 (i : Int) ∧ s9 = .int .i64 (v : Int) ∧ s0 = .slice A' b'.length c' ∧ Hid (FdAt n k b i v b') ∧ Hid (Sl w0 A' b' c') ∧ Hid (Fresh w wx))
  case atStart => exact ⟨0, 0, A, b, c, by omega, rfl, rfl, rfl, FdAt.start n k b, H.out, Upd.refl w⟩
  case round =>
    obtain ⟨i, v, A', b', c', hgk, rfl, rfl, rfl, HP, HS, HF⟩ := hrel
    by_cases hi : i < n
    · have hq : bits .and .i64 ((k : Int) / 2 ^ i) 1 = ((k / 2 ^ i % 2 : Nat) : Int) := by
        have := i64_low1 (k / 2 ^ i) (Nat.lt_of_le_of_lt (Nat.div_le_self _ _) (by omega))
        rw [← this]
        congr 1
      by_cases hy : k / 2 ^ i % 2 = 0
      · have HX := Lib.hid (HP.out.skip hi hy)
        rw [hy] at hq
        clear hy
        go_wp2_with fail
        go_roundg (gk - 1)
        case measure => omega
        case rel => exact ⟨i + 1, v, A', b', c', by omega, by go_num, rfl, rfl, HX.out, HS.out, HF.out⟩
      · have hq1 : bits .and .i64 ((k : Int) / 2 ^ i) 1 = 1 := by rw [hq]; omega
        clear hq
        rcases b' with _ | ⟨x, t⟩
        · have HX := Lib.hid (HP.out.short hi hy)
          clear hy
          go_wp2_with fail
          go_ret3
          refine ⟨HF.out, ?_⟩
          rw [HX.out]
          rfl
        · obtain ⟨ad, rfl, hc⟩ := (HS.out.fresh (HW0.out.trans HF.out (fun _ _ h => h))).head
          have HNA := Lib.hid (show c' = 1 → Sl w0 (some ad) t 0 from fun e => by
            have := HS.out.next
            rwa [if_pos e, show c' - 1 = 0 by omega] at this)
          have HNB := Lib.hid (show ¬ c' = 1 → Sl w0 (some ⟨ad.block, ad.off + 1, none⟩) t (c' - 1) from fun e => by
            have := HS.out.next
            rwa [if_neg e] at this)
          have hcp := HS.out.le
          have hcm := HS.out.cm
          rw [List.length_cons] at hcp
          go_upto_region 8 with fail
          go_cut [9] (fun sv wx => sv = .int .i64 ((v + x.toNat * 2 ^ (8 * i) : Nat) : Int) ∧ wr = wx)
          case first =>
            have hxl : x.toNat < 256 := x.toNat_lt
            have h2 : 2 ^ (8 * i) ≤ 2 ^ 24 := Nat.pow_le_pow_right (by decide) (by omega)
            have h3 : x.toNat * 2 ^ (8 * i) ≤ 255 * 2 ^ 24 := Nat.mul_le_mul (by omega) h2
            have h4 : v < 2 ^ 24 := Nat.lt_of_lt_of_le HP.out.lt h2
            have z2 : 0 ≤ 8 * (i : Int) := by omega
            have z3 : 8 * (i : Int) < 64 := by omega
            have z4 : (8 * (i : Int)).toNat = 8 * i := by omega
            have hw : wrap64 ((v : Int) + wrap64 ((x.toNat : Int) * 2 ^ (8 * i))) = ((v + x.toNat * 2 ^ (8 * i) : Nat) : Int) := by
              rw [show ((x.toNat : Int) * 2 ^ (8 * i)) = ((x.toNat * 2 ^ (8 * i) : Nat) : Int) by simp]
              generalize x.toNat * 2 ^ (8 * i) = z at h3
              exact wrap_add v z (by omega) (by omega)
            have HW := Lib.hid hw
            clear hw h2 h3 h4
            go_wp2_with fail
            go_meet
            exact ⟨by rw [HW.out], rfl⟩
          obtain ⟨rfl, rfl⟩ := hcut
          have HX := Lib.hid (HP.out.next hi hy)
          clear hy hc
          generalize v + x.toNat * 2 ^ (8 * i) = V at HX ⊢
          go_wp2_with fail
          all_goals
            go_roundg (gk - 1)
            case measure => omega
            case rel => first
              | exact ⟨i + 1, V, some ad, t, 0, by omega, by go_num, rfl, by simp, HX.out, HNA.out (by assumption), HF.out⟩
              | exact ⟨i + 1, V, some ⟨ad.block, ad.off + 1, none⟩, t, c' - 1, by omega, by go_num, rfl, by simp, HX.out, HNB.out (by assumption), HF.out⟩
    · have HX := Lib.hid (HP.out.done (by omega))
      go_wp2_with fail
      go_ret3
      refine ⟨HF.out, ?_⟩
      rw [HX.out]
      exact ⟨A', c', rfl, HS.out⟩
/-! ### Both alike -/
theorem placeD_high : ∀ (f k i off sz : Nat) (b : List UInt8), f + i = 3 → placeD f k (4 + i) off sz b = match fieldD f (k / 16) i sz b with
    | none => none
    | some (sz', r) => some (off, sz', r)
  | 0, k, i, off, sz, b, h => rfl
  | f + 1, k, i, off, sz, b, h => by
    have e : k / 2 ^ (4 + i) = k / 16 / 2 ^ i := by rw [Nat.pow_add, Nat.div_div_eq_div_mul]
    by_cases hk : k / 2 ^ (4 + i) % 2 = 0
    · rw [placeD_skip _ hk, fieldD_skip _ (by rw [← e]; exact hk), show 4 + i + 1 = 4 + (i + 1) by omega]
      exact placeD_high f k (i + 1) off sz b (by omega)
    · rcases b with _ | ⟨c, r⟩
      · rw [placeD_nil _ hk, fieldD_nil _ (by rw [← e]; exact hk)]
      · rw [placeD_cons _ hk, fieldD_cons _ (by rw [← e]; exact hk), if_neg (by omega), show 4 + i + 1 = 4 + (i + 1) by omega, show 4 + i - 4 = i by omega]
        exact placeD_high f k (i + 1) off _ r (by omega)
theorem placeD_low : ∀ (f k i off : Nat) (b : List UInt8), f + i = 4 → placeD (f + 3) k i off 0 b = match fieldD f k i off b with
    | none => none
    | some (off', r) => match fieldD 3 (k / 16) 0 0 r with
      | none => none
      | some (sz, r') => some (off', sz, r')
  | 0, k, i, off, b, h => by
    have : i = 4 := by omega
    subst this
    exact placeD_high 3 k 0 off 0 b rfl
  | f + 1, k, i, off, b, h => by
    rw [show f + 1 + 3 = (f + 3) + 1 by omega]
    by_cases hk : k / 2 ^ i % 2 = 0
    · rw [placeD_skip _ hk, fieldD_skip _ hk]
      exact placeD_low f k (i + 1) off b (by omega)
    · rcases b with _ | ⟨c, r⟩
      · rw [placeD_nil _ hk, fieldD_nil _ hk]
      · rw [placeD_cons _ hk, fieldD_cons _ hk, if_pos (by omega)]
        exact placeD_low f k (i + 1) _ r (by omega)
theorem fieldD_mod (m : Nat) : ∀ (f k i v : Nat) (b : List UInt8), f + i ≤ m → fieldD f (k % 2 ^ m) i v b = fieldD f k i v b
  | 0, k, i, v, b, h => rfl
  | f + 1, k, i, v, b, h => by
    have e : k % 2 ^ m / 2 ^ i % 2 = k / 2 ^ i % 2 := by
      have := Nat.testBit_mod_two_pow k m i
      rw [Nat.testBit_eq_decide_div_mod_eq, Nat.testBit_eq_decide_div_mod_eq, decide_eq_true (show i < m by omega), Bool.true_and, decide_eq_decide] at this
      omega
    by_cases hk : k / 2 ^ i % 2 = 0
    · rw [fieldD_skip _ hk, fieldD_skip _ (by rw [e]; exact hk)]
      exact fieldD_mod m f k (i + 1) v b (by omega)
    · rcases b with _ | ⟨c, r⟩
      · rw [fieldD_nil _ hk, fieldD_nil _ (by rw [e]; exact hk)]
      · rw [fieldD_cons _ hk, fieldD_cons _ (by rw [e]; exact hk)]
        exact fieldD_mod m f k (i + 1) _ r (by omega)
/-- The document reads a copy's place and length as place does. -/
theorem place_fields (k : Nat) (b : List UInt8) : placeS (k % 128) b = match fieldS 4 (k % 16) b with
    | none => none
    | some (off, r) => match fieldS 3 (k / 16 % 8) r with
      | none => none
      | some (sz, r') => some (off, if sz = 0 then 65536 else sz, r') := by
  unfold placeS fieldS
  have h := placeD_low 4 (k % 128) 0 0 b rfl
  rw [show 4 + 3 = 7 by rfl] at h
  rw [h, show k % 16 = k % 128 % 2 ^ 4 by omega, fieldD_mod 4 4 (k % 128) 0 0 b (by omega)]
  rcases fieldD 4 (k % 128) 0 0 b with _ | ⟨off, r⟩
  · rfl
  · dsimp only
    rw [show k / 16 % 8 = k % 128 / 16 by omega]
    rcases fieldD 3 (k % 128 / 16) 0 0 r with _ | ⟨sz, r'⟩
    · rfl
    · rfl
end Go.Proofs.Ytiiolpchefldlaa
