import Derived.Test.YtiiolpchefldlaaNd
namespace Go.Proofs.Ytiiolpchefldlaa
open Go.RowKit

/-! ### place -/
/-- The bytes that the low seven bits of a name: i of them looked at; off and size so far. -/
def placeD : Nat → Nat → Nat → Nat → Nat → List UInt8 → Option (Nat × Nat × List UInt8)
  | 0, _, _, off, sz, b => some (off, sz, b)
  | f + 1, k, i, off, sz, b =>
    if k / 2 ^ i % 2 = 0 then placeD f k (i + 1) off sz b
    else match b with
      | [] => none
      | c :: r => if i < 4 then placeD f k (i + 1) (off + c.toNat * 2 ^ (8 * i)) sz r else placeD f k (i + 1) off (sz + c.toNat * 2 ^ (8 * (i - 4))) r
/-- Where, how much (0 is 65536), what stands behind; none: the bytes end. -/
def placeS (k : Nat) (b : List UInt8) : Option (Nat × Nat × List UInt8) := match placeD 7 k 0 0 0 b with
  | none => none
  | some (off, sz, r) => some (off, if sz = 0 then 65536 else sz, r)
structure PcAt (k : Nat) (b : List UInt8) (i off sz : Nat) (b' : List UInt8) : Prop where
  eq : placeD (7 - i) k i off sz b' = placeD 7 k 0 0 0 b
  o1 : off < 2 ^ (8 * i)
  o2 : off < 4294967296
  s1 : sz < 2 ^ (8 * (i - 4))
  s2 : sz < 16777216
theorem PcAt.start (k : Nat) (b : List UInt8) : PcAt k b 0 0 0 b := ⟨rfl, by decide, by decide, by decide, by decide⟩
section
variable {k i off sz : Nat} {b b' r : List UInt8} {c : UInt8}
theorem PcAt.done (h : PcAt k b i off sz b') (hi : 7 ≤ i) : placeD 7 k 0 0 0 b = some (off, sz, b') := by
  have e := h.eq
  rw [show 7 - i = 0 by omega] at e
  rw [← e]
  rfl
theorem placeD_skip (f : Nat) (hk : k / 2 ^ i % 2 = 0) : placeD (f + 1) k i off sz b = placeD f k (i + 1) off sz b := by
  cases b <;> simp [placeD, hk]
theorem placeD_nil (f : Nat) (hk : k / 2 ^ i % 2 ≠ 0) : placeD (f + 1) k i off sz [] = none := by simp [placeD, hk]
theorem placeD_cons (f : Nat) (hk : k / 2 ^ i % 2 ≠ 0) : placeD (f + 1) k i off sz (c :: r) = if i < 4 then placeD f k (i + 1) (off + c.toNat * 2 ^ (8 * i)) sz r else placeD f k (i + 1) off (sz + c.toNat * 2 ^ (8 * (i - 4))) r := by
  rw [placeD, if_neg hk]
theorem PcAt.skip (h : PcAt k b i off sz b') (hi : i < 7) (hk : k / 2 ^ i % 2 = 0) : PcAt k b (i + 1) off sz b' :=
  ⟨by rw [← h.eq, show 7 - i = (7 - (i + 1)) + 1 by omega, placeD_skip _ hk],
   Nat.lt_of_lt_of_le h.o1 (Nat.pow_le_pow_right (by decide) (by omega)), h.o2, Nat.lt_of_lt_of_le h.s1 (Nat.pow_le_pow_right (by decide) (by omega)), h.s2⟩
theorem PcAt.short (h : PcAt k b i off sz []) (hi : i < 7) (hk : k / 2 ^ i % 2 ≠ 0) : placeD 7 k 0 0 0 b = none := by
  rw [← h.eq, show 7 - i = (7 - (i + 1)) + 1 by omega, placeD_nil _ hk]
theorem byte_pow (c : UInt8) (v i : Nat) (h : v < 2 ^ (8 * i)) : v + c.toNat * 2 ^ (8 * i) < 2 ^ (8 * (i + 1)) := by
  have h2 : c.toNat < 256 := c.toNat_lt
  have h3 : c.toNat * 2 ^ (8 * i) ≤ 255 * 2 ^ (8 * i) := Nat.mul_le_mul_right _ (by omega)
  rw [show 8 * (i + 1) = 8 * i + 8 by omega, Nat.pow_add]
  omega
theorem PcAt.off_ (h : PcAt k b i off sz (c :: r)) (hi : i < 4) (hk : k / 2 ^ i % 2 ≠ 0) : PcAt k b (i + 1) (off + c.toNat * 2 ^ (8 * i)) sz r := by
  have h1 := byte_pow c off i h.o1
  refine ⟨by rw [← h.eq, show 7 - i = (7 - (i + 1)) + 1 by omega, placeD_cons _ hk, if_pos hi], h1, ?_, ?_, h.s2⟩
  · have : 2 ^ (8 * (i + 1)) ≤ 2 ^ 32 := Nat.pow_le_pow_right (by decide) (by omega)
    omega
  · exact Nat.lt_of_lt_of_le h.s1 (Nat.pow_le_pow_right (by decide) (by omega))
theorem PcAt.sz_ (h : PcAt k b i off sz (c :: r)) (hi : ¬ i < 4) (h7 : i < 7) (hk : k / 2 ^ i % 2 ≠ 0) : PcAt k b (i + 1) off (sz + c.toNat * 2 ^ (8 * (i - 4))) r := by
  have h1 := byte_pow c sz (i - 4) h.s1
  refine ⟨by rw [← h.eq, show 7 - i = (7 - (i + 1)) + 1 by omega, placeD_cons _ hk, if_neg hi], Nat.lt_of_lt_of_le h.o1 (Nat.pow_le_pow_right (by decide) (by omega)), h.o2, ?_, ?_⟩
  · rw [show i + 1 - 4 = i - 4 + 1 by omega]; exact h1
  · have : 2 ^ (8 * (i - 4 + 1)) ≤ 2 ^ 24 := Nat.pow_le_pow_right (by decide) (by omega)
    omega
end
theorem u8_low1 (n : Nat) (h : n < 256) : bits .and .u8 (n : Int) 1 = ((n % 2 : Nat) : Int) := by
  have key : ∀ k : Fin 256, bits .and .u8 ((k.val : Nat) : Int) 1 = ((k.val % 2 : Nat) : Int) := by decide +kernel
  exact key ⟨n, h⟩
/-- s[1:] -/
theorem Sl.next {w : World} {ad : Addr} {x : UInt8} {t : List UInt8} {c : Nat} (h : Sl w (some ad) (x :: t) c) : Sl w (if c = 1 then some ad else some ⟨ad.block, ad.off + 1, none⟩) t (c - 1) := by
  have := h.from_ (k := 1) (by simp)
  rwa [show ad.add 1 = ⟨ad.block, ad.off + 1, none⟩ by simp [Addr.add], List.drop_succ_cons, List.drop_zero] at this
theorem Sl.head {w : World} {A : Option Addr} {x : UInt8} {t : List UInt8} {c : Nat} (h : Sl w A (x :: t) c) : ∃ ad, A = some ad ∧ w.cell? ad = some (.int .u8 (x.toNat : Int)) := by
  obtain ⟨ad, rfl, -⟩ := h.rd.2 (by simp)
  refine ⟨ad, rfl, ?_⟩
  have := bytes_at h.rd (k := 0) (by simp)
  simpa [Addr.add] using this
def PlaceO (w0 : World) (r : Option (Nat × Nat × List UInt8)) (w : World) (e : Ending) (w' : World) : Prop := Fresh w w' ∧ match r with
  | none => e = .returned (.tuple #[.int .i64 0, .int .i64 0, .slice none 0 0, .bool false])
  | some (off, n, r) => ∃ A c, e = .returned (.tuple #[.int .i64 (off : Int), .int .i64 (n : Int), .slice A r.length c, .bool true]) ∧ Sl w0 A r c
set_option maxHeartbeats 1600000 in
set_option maxRecDepth 100000 in
theorem place_o {A : Option Addr} {c k : Nat} {b : List UInt8} {w0 w : World} (h : Sl w0 A b c) (hf : Fresh w0 w) (hk : k < 256) : Calls Try.prog 22 #[.int .u8 (k : Int), .slice A b.length c] w (PlaceO w0 (placeS k b) w) := by
  have H := Lib.hid h
  have HW := Lib.hid hf
  clear h hf
  go_enter Try.func22, Try.ntmps22
  go_wp2_with fail
  go_loopg [1, 4, 5, 9] 7 (fun gk s1 s4 s5 s9 wx => ∃ (i off sz : Nat) (A' : Option Addr) (b' : List UInt8) (c' : Nat), gk + i = 7 ∧ s9 = .int .i64 (i : Int) ∧ s4 = .int .i64 (off : Int) ∧ s5 = .int .i64 (sz : Int) ∧ s1 = .slice A' b'.length c' ∧ Hid (PcAt k b i off sz b') ∧ Hid (Sl w0 A' b' c') ∧ Hid (Fresh w wx))
  case atStart => exact ⟨0, 0, 0, A, b, c, rfl, rfl, rfl, rfl, rfl, PcAt.start k b, H.out, Upd.refl w⟩
  case round =>
    obtain ⟨i, off, sz, A', b', c', hgk, rfl, rfl, rfl, rfl, HP, HS, HF⟩ := hrel
    by_cases hi : i < 7
    · have hq : bits .and .u8 ((k : Int) / 2 ^ i) 1 = ((k / 2 ^ i % 2 : Nat) : Int) := by
        have := u8_low1 (k / 2 ^ i) (Nat.lt_of_le_of_lt (Nat.div_le_self _ _) hk)
        rw [← this]
        congr 1
      by_cases hy : k / 2 ^ i % 2 = 0
      · have HX := Lib.hid (HP.out.skip hi hy)
        rw [hy] at hq
        clear hy
        go_wp2_with fail
        go_roundg (gk - 1)
        case measure => omega
        case rel => exact ⟨i + 1, off, sz, A', b', c', by omega, by go_num, rfl, rfl, rfl, HX.out, HS.out, HF.out⟩
      · have hq1 : bits .and .u8 ((k : Int) / 2 ^ i) 1 = 1 := by rw [hq]; omega
        clear hq
        rcases b' with _ | ⟨x, t⟩
        · have HX := Lib.hid (HP.out.short hi hy)
          clear hy
          go_wp2_with fail
          refine bodyPost_ret (results_tmp4 rfl _ _ _) rfl ?_
          refine ⟨HF.out, ?_⟩
          rw [placeS, HX.out]
          rfl
        · obtain ⟨ad, rfl, hc⟩ := (HS.out.fresh (HW.out.trans HF.out (fun _ _ h => h))).head
          have HNA := Lib.hid (show c' = 1 → Sl w0 (some ad) t 0 from fun e => by
            have := HS.out.next
            rwa [if_pos e, show c' - 1 = 0 by omega] at this)
          have HNB := Lib.hid (show ¬ c' = 1 → Sl w0 (some ⟨ad.block, ad.off + 1, none⟩) t (c' - 1) from fun e => by
            have := HS.out.next
            rwa [if_neg e] at this)
          have hcp := HS.out.le
          have hcm := HS.out.cm
          rw [List.length_cons] at hcp
          by_cases h4 : i < 4
          · go_upto_region 8 with fail
            go_cut [4] (fun sv wx => sv = .int .i64 ((off + x.toNat * 2 ^ (8 * i) : Nat) : Int) ∧ wr = wx)
            case first =>
              have hxl : x.toNat < 256 := x.toNat_lt
              have h2 : 2 ^ (8 * i) ≤ 2 ^ 24 := Nat.pow_le_pow_right (by decide) (by omega)
              have h3 : x.toNat * 2 ^ (8 * i) ≤ 255 * 2 ^ 24 := Nat.mul_le_mul (by omega) h2
              have hor := i64_or_high off x.toNat (8 * i) HP.out.o1 (by have := HP.out.o2; omega)
              have z2 : 0 ≤ 8 * (i : Int) := by omega
              have z3 : 8 * (i : Int) < 64 := by omega
              have z4 : (8 * (i : Int)).toNat = 8 * i := by omega
              have hw : wrap64 ((x.toNat : Int) * 2 ^ (8 * i)) = ((x.toNat * 2 ^ (8 * i) : Nat) : Int) := by
                rw [show ((x.toNat : Int) * 2 ^ (8 * i)) = ((x.toNat * 2 ^ (8 * i) : Nat) : Int) by simp]
                generalize x.toNat * 2 ^ (8 * i) = z at h3
                clear h2 hor z2 z3 z4 hxl
                unfold wrap64
                omega
              have HW := Lib.hid (show bits .or .i64 (off : Int) (wrap64 ((x.toNat : Int) * 2 ^ (8 * i))) = ((off + x.toNat * 2 ^ (8 * i) : Nat) : Int) by rw [hw, hor])
              clear hw hor h2 h3
              go_wp2_with fail
              go_meet
              exact ⟨by rw [HW.out], rfl⟩
            obtain ⟨rfl, rfl⟩ := hcut
            have HX := Lib.hid (HP.out.off_ h4 hy)
            clear hy hc
            generalize off + x.toNat * 2 ^ (8 * i) = V at HX ⊢
            go_wp2_with fail
            all_goals
              go_roundg (gk - 1)
              case measure => omega
              case rel => first
                | exact ⟨i + 1, V, sz, some ad, t, 0, by omega, by go_num, rfl, rfl, by simp, HX.out, HNA.out (by assumption), HF.out⟩
                | exact ⟨i + 1, V, sz, some ⟨ad.block, ad.off + 1, none⟩, t, c' - 1, by omega, by go_num, rfl, rfl, by simp, HX.out, HNB.out (by assumption), HF.out⟩
          · go_upto_region 9 with fail
            go_cut [5] (fun sv wx => sv = .int .i64 ((sz + x.toNat * 2 ^ (8 * (i - 4)) : Nat) : Int) ∧ wr = wx)
            case first =>
              have hxl : x.toNat < 256 := x.toNat_lt
              have h2 : 2 ^ (8 * (i - 4)) ≤ 2 ^ 24 := Nat.pow_le_pow_right (by decide) (by omega)
              have h3 : x.toNat * 2 ^ (8 * (i - 4)) ≤ 255 * 2 ^ 24 := Nat.mul_le_mul (by omega) h2
              have hor := i64_or_high sz x.toNat (8 * (i - 4)) HP.out.s1 (by have := HP.out.s2; omega)
              have z2 : 0 ≤ 8 * ((i : Int) - 4) := by omega
              have z3 : 8 * ((i : Int) - 4) < 64 := by omega
              have z4 : (8 * ((i : Int) - 4)).toNat = 8 * (i - 4) := by omega
              have hw : wrap64 ((x.toNat : Int) * 2 ^ (8 * (i - 4))) = ((x.toNat * 2 ^ (8 * (i - 4)) : Nat) : Int) := by
                rw [show ((x.toNat : Int) * 2 ^ (8 * (i - 4))) = ((x.toNat * 2 ^ (8 * (i - 4)) : Nat) : Int) by simp]
                generalize x.toNat * 2 ^ (8 * (i - 4)) = z at h3
                clear h2 hor z2 z3 z4 hxl
                unfold wrap64
                omega
              have HW := Lib.hid (show bits .or .i64 (sz : Int) (wrap64 ((x.toNat : Int) * 2 ^ (8 * (i - 4)))) = ((sz + x.toNat * 2 ^ (8 * (i - 4)) : Nat) : Int) by rw [hw, hor])
              clear hw hor h2 h3
              go_wp2_with fail
              go_meet
              exact ⟨by rw [HW.out], rfl⟩
            obtain ⟨rfl, rfl⟩ := hcut
            have HX := Lib.hid (HP.out.sz_ h4 hi hy)
            clear hy hc
            generalize sz + x.toNat * 2 ^ (8 * (i - 4)) = V at HX ⊢
            go_wp2_with fail
            all_goals
              go_roundg (gk - 1)
              case measure => omega
              case rel => first
                | exact ⟨i + 1, off, V, some ad, t, 0, by omega, by go_num, rfl, rfl, by simp, HX.out, HNA.out (by assumption), HF.out⟩
                | exact ⟨i + 1, off, V, some ⟨ad.block, ad.off + 1, none⟩, t, c' - 1, by omega, by go_num, rfl, rfl, by simp, HX.out, HNB.out (by assumption), HF.out⟩
    · have HX := Lib.hid (HP.out.done (by omega))
      by_cases hz : sz = 0
      · subst hz
        go_wp2_with fail
        refine bodyPost_ret (results_tmp4 rfl _ _ _) rfl ?_
        refine ⟨HF.out, ?_⟩
        rw [placeS, HX.out]
        exact ⟨A', c', rfl, HS.out⟩
      · have hz1 : ((sz : Int) == 0) = false := by simpa using hz
        go_wp2_with fail
        refine bodyPost_ret (results_tmp4 rfl _ _ _) rfl ?_
        refine ⟨HF.out, ?_⟩
        rw [placeS, HX.out]
        dsimp only
        rw [if_neg hz]
        exact ⟨A', c', rfl, HS.out⟩
end Go.Proofs.Ytiiolpchefldlaa
