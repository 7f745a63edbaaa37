import Derived.Test.YtiiolpchefldlaaNu
namespace Go.Proofs.Ytiiolpchefldlaa
open Go.RowKit

/-! ### number -/
/-- A number of at most f bytes more, i of them read, v so far; what stands behind it, what is wrong. -/
def numD : Nat → Nat → Nat → List UInt8 → Nat × List UInt8 × Nat
  | 0, _, _, _ => (0, [], 3)
  | _ + 1, _, _, [] => (0, [], 4)
  | f + 1, i, v, c :: r =>
    if c.toNat < 128 then (if 2147483647 < v + c.toNat % 128 * 2 ^ (7 * i) then (0, [], 3) else (v + c.toNat % 128 * 2 ^ (7 * i), r, 0))
    else numD f (i + 1) (v + c.toNat % 128 * 2 ^ (7 * i)) r
def numDS (b : List UInt8) : Nat × List UInt8 × Nat := numD 5 0 0 b
structure DAt (b : List UInt8) (i v : Nat) : Prop where
  eq : numD (5 - i) i v (b.drop i) = numDS b
  lt : v < 2 ^ (7 * i)
theorem DAt.start (b : List UInt8) : DAt b 0 0 := ⟨rfl, by decide⟩
section
variable {b : List UInt8} {i v : Nat}
theorem DAt.short (h : DAt b i v) (hi : i < 5) (hb : b.length ≤ i) : numDS b = (0, [], 4) := by
  rw [← h.eq, List.drop_of_length_le hb, show 5 - i = (4 - i) + 1 by omega, numD]
theorem DAt.long (h : DAt b i v) (hi : 5 ≤ i) : numDS b = (0, [], 3) := by
  rw [← h.eq, show 5 - i = 0 by omega, numD]
theorem DAt.last (h : DAt b i v) (hi : i < 5) (hb : i < b.length) (hc : b[i].toNat < 128) : numDS b = if 2147483647 < v + b[i].toNat % 128 * 2 ^ (7 * i) then (0, [], 3) else (v + b[i].toNat % 128 * 2 ^ (7 * i), b.drop (i + 1), 0) := by
  rw [← h.eq, List.drop_eq_getElem_cons hb, show 5 - i = (4 - i) + 1 by omega, numD, if_pos hc]
theorem DAt.next (h : DAt b i v) (hi : i < 5) (hb : i < b.length) (hc : ¬ b[i].toNat < 128) : DAt b (i + 1) (v + b[i].toNat % 128 * 2 ^ (7 * i)) := by
  refine ⟨?_, ?_⟩
  · rw [← h.eq, List.drop_eq_getElem_cons hb, show 5 - i = (4 - i) + 1 by omega, numD, if_neg hc, show 5 - (i + 1) = 4 - i by omega]
  · have h1 := h.lt
    have h2 : b[i].toNat % 128 < 128 := Nat.mod_lt _ (by decide)
    have h3 : b[i].toNat % 128 * 2 ^ (7 * i) ≤ 127 * 2 ^ (7 * i) := Nat.mul_le_mul_right _ (by omega)
    rw [show 7 * (i + 1) = 7 * i + 7 by omega, Nat.pow_add]
    omega
end
theorem numD_rest (b : List UInt8) : ∀ (f i v : Nat) (b : List UInt8), (numD f i v b).2.1.length ≤ b.length
  | 0, i, v, b => by simp [numD]
  | f + 1, i, v, [] => by simp [numD]
  | f + 1, i, v, c :: r => by
    rw [numD]
    split
    · split
      · simp
      · simp
    · have := numD_rest b f (i + 1) (v + c.toNat % 128 * 2 ^ (7 * i)) r
      simp only [List.length_cons]
      omega
theorem u8_low7 (c : UInt8) : bits .and .u8 (c.toNat : Int) 127 = ((c.toNat % 128 : Nat) : Int) := by
  have key : ∀ k : Fin 256, bits .and .u8 ((k.val : Nat) : Int) 127 = ((k.val % 128 : Nat) : Int) := by decide +kernel
  exact key ⟨c.toNat, c.toNat_lt⟩
theorem i64_or_high (v y k : Nat) (hv : v < 2 ^ k) (hy : v + y * 2 ^ k < 9223372036854775808) : bits .or .i64 (v : Int) ((y * 2 ^ k : Nat) : Int) = ((v + y * 2 ^ k : Nat) : Int) := by
  have e : v ||| (y * 2 ^ k) = v + y * 2 ^ k := by
    rw [Nat.or_comm, Nat.mul_comm, ← Nat.two_pow_add_eq_or_of_lt hv, Nat.add_comm]
  show IntKind.i64.wrap ((BitVec.ofInt 64 (v : Int) ||| BitVec.ofInt 64 ((y * 2 ^ k : Nat) : Int)).toNat : Nat) = _
  rw [BitVec.ofInt_natCast, BitVec.ofInt_natCast, BitVec.toNat_or, BitVec.toNat_ofNat, BitVec.toNat_ofNat, Nat.mod_eq_of_lt (by omega), Nat.mod_eq_of_lt (by omega), e, IntKind.wrap_i64]
  omega
theorem bytes_at {w : World} {S : Nat → Prop} {ad : Addr} {n : Nat} {b : List UInt8} (h : Reads w S 1 (some ad) n (bv b)) {k : Nat} (hk : k < b.length) : w.cell? (ad.add k) = some (.int .u8 (b[k].toNat : Int)) := by
  have hn : n = b.length := by have := h.1; simpa [bv] using this.symm
  obtain ⟨ad', u, e, _, _, hu, hc⟩ := h.at_ (k := k) (by omega)
  injection e with e
  subst e
  rw [hc]
  simp [bv, hk] at hu
  rw [hu]
theorem sub_bytes {w : World} {S : Nat → Prop} {ad : Addr} {b : List UInt8} (h : Reads w S 1 (some ad) b.length (bv b)) (p n : Nat) (hp : p + n ≤ b.length) : Reads w S 1 (some (ad.add p)) ((b.drop p).take n).length (bv ((b.drop p).take n)) := by
  have hlen : ((b.drop p).take n).length = n := by simp; omega
  refine ⟨by simp [bv], fun hn => ?_⟩
  obtain ⟨ad', e, hs, hb, hc⟩ := h.2 (by omega)
  injection e with e
  subst e
  refine ⟨_, rfl, by rw [block_of_add]; exact hs, by rw [block_of_add]; exact hb, fun j u hu => ?_⟩
  rw [add_of_add]
  have hj : j < n := by have := (List.getElem?_eq_some_iff.1 hu).1; rw [bv_length, hlen] at this; exact this
  refine hc (p + j) u ?_
  rw [← hu]
  simp [bv, List.getElem?_take, hj]
/-- Bytes in a slice that may be cut on. -/
structure Sl (w : World) (A : Option Addr) (b : List UInt8) (c : Nat) : Prop where
  rd : Reads w (fun _ => True) 1 A b.length (bv b)
  le : b.length ≤ c
  cm : c ≤ 9223372036854775807
  nn : A = none → c = 0
theorem Sl.fresh {w w' : World} {A : Option Addr} {b : List UInt8} {c : Nat} (h : Sl w A b c) (hu : Fresh w w') : Sl w' A b c := ⟨h.rd.upd hu (fun _ _ h => h), h.le, h.cm, h.nn⟩
theorem Sl.nil (w : World) : Sl w none [] 0 := ⟨Reads.none_, Nat.le_refl _, by omega, fun _ => rfl⟩
theorem Sl.from_ {w : World} {ad : Addr} {b : List UInt8} {c k : Nat} (h : Sl w (some ad) b c) (hk : k ≤ b.length) : Sl w (if c = k then some ad else some (ad.add k)) (b.drop k) (c - k) := by
  have hl : (b.drop k).length = b.length - k := List.length_drop
  refine ⟨?_, by have := h.le; omega, by have := h.cm; omega, ?_⟩
  · by_cases e : c = k
    · rw [if_pos e]
      have : b.drop k = [] := List.drop_of_length_le (by have := h.le; omega)
      rw [this]
      exact ⟨rfl, fun h => absurd h (by simp)⟩
    · rw [if_neg e]
      have := sub_bytes h.rd k (b.length - k) (by omega)
      rwa [List.take_of_length_le (by omega)] at this
  · intro e
    split at e <;> cases e
def DecO (w0 : World) (r : Nat × List UInt8 × Nat) (w : World) (e : Ending) (w' : World) : Prop := ∃ A c, e = .returned (.tuple #[.int .i64 (r.1 : Int), .slice A r.2.1.length c, .int .i64 (r.2.2 : Int)]) ∧ Sl w0 A r.2.1 c ∧ Fresh w w'
set_option maxHeartbeats 1600000 in
set_option maxRecDepth 100000 in
theorem decn_o {A : Option Addr} {c : Nat} {b : List UInt8} {w0 w : World} (h : Sl w0 A b c) (hf : Fresh w0 w) : Calls Try.prog 30 #[.slice A b.length c] w (DecO w0 (numDS b) w) := by
  have H := Lib.hid h
  have HW0 := Lib.hid (h.fresh hf)
  have hle := h.le
  have hcm := h.cm
  clear h hf
  go_enter Try.func30, Try.ntmps30
  go_wp2_with fail
  go_loopg [2, 5, 6] 5 (fun gk s2 s5 s6 wx => ∃ i v : Nat, gk + i = 5 ∧ s6 = .int .i64 (i : Int) ∧ s2 = .int .i64 (v : Int) ∧ Hid (DAt b i v) ∧ w = wx)
  case atStart => exact ⟨0, 0, rfl, rfl, rfl, DAt.start b, rfl⟩
  case round =>
    obtain ⟨i, v, hgk, rfl, rfl, HD, rfl⟩ := hrel
    by_cases hi : i < 5
    · by_cases hb : b.length ≤ i
      · have HX := Lib.hid (HD.out.short hi hb)
        go_wp2_with fail
        go_ret3
        rw [HX.out]
        exact ⟨none, 0, rfl, Sl.nil w0, Upd.refl w⟩
      · obtain ⟨ad, hA, -⟩ := HW0.out.rd.2 (by omega)
        subst hA
        have hib : i < b.length := by omega
        have hc := bytes_at HW0.out.rd hib
        have HL := Lib.hid (HD.out.last hi hib)
        have HNx := Lib.hid (HD.out.next hi hib)
        have hv : v < 34359738368 := by
          have h1 := HD.out.lt
          have h2 : 2 ^ (7 * i) ≤ 2 ^ 28 := Nat.pow_le_pow_right (by decide) (by omega)
          omega
        have HV := Lib.hid HD.out.lt
        generalize b[i] = x at hc HL HNx
        have hlow := u8_low7 x
        have hy : x.toNat % 128 < 128 := Nat.mod_lt _ (by decide)
        generalize hyy : x.toNat % 128 = y at hlow hy HL HNx
        have z1 : (i : Int) < (b.length : Int) := by omega
        have z0 : (0 : Int) ≤ (i : Int) := by omega
        go_upto_region 6 with fail
        go_cut [2] (fun s2 wx => s2 = .int .i64 ((v + y * 2 ^ (7 * i) : Nat) : Int) ∧ w = wx)
        case first =>
          have hor := i64_or_high v y (7 * i) HV.out (by
            have h2 : 2 ^ (7 * i) ≤ 2 ^ 28 := Nat.pow_le_pow_right (by decide) (by omega)
            have h3 : y * 2 ^ (7 * i) ≤ 127 * 2 ^ 28 := Nat.mul_le_mul (by omega) h2
            omega)
          have z2 : 0 ≤ 7 * (i : Int) := by omega
          have z3 : 7 * (i : Int) < 64 := by omega
          have z4 : (7 * (i : Int)).toNat = 7 * i := by omega
          have hsm : y * 2 ^ (7 * i) ≤ 127 * 2 ^ 28 := by
            have h2 : 2 ^ (7 * i) ≤ 2 ^ 28 := Nat.pow_le_pow_right (by decide) (by omega)
            exact Nat.mul_le_mul (by omega) h2
          have hw : wrap64 ((y : Int) * 2 ^ (7 * i)) = ((y * 2 ^ (7 * i) : Nat) : Int) := by
            rw [show ((y : Int) * 2 ^ (7 * i)) = ((y * 2 ^ (7 * i) : Nat) : Int) by simp]
            generalize y * 2 ^ (7 * i) = z at hsm
            have := IntKind.wrap_i64 (z : Int)
            unfold wrap64
            omega
          have HW := Lib.hid (show bits .or .i64 (v : Int) (wrap64 ((y : Int) * 2 ^ (7 * i))) = ((v + y * 2 ^ (7 * i) : Nat) : Int) by rw [hw, hor])
          clear hw hor hsm
          go_wp2_with fail
          go_meet
          exact ⟨by rw [HW.out], rfl⟩
        obtain ⟨rfl, rfl⟩ := hcut
        clear hlow hyy
        have hV : v + y * 2 ^ (7 * i) < 70000000000 := by
          have h2 : 2 ^ (7 * i) ≤ 2 ^ 28 := Nat.pow_le_pow_right (by decide) (by omega)
          have h3 : y * 2 ^ (7 * i) ≤ 127 * 2 ^ 28 := Nat.mul_le_mul (by omega) h2
          omega
        generalize v + y * 2 ^ (7 * i) = V at HL HNx hV ⊢
        by_cases hx : x.toNat < 128
        · have HX := Lib.hid (HL.out hx)
          have hxI : (x.toNat : Int) < 128 := by omega
          by_cases hbig : 2147483647 < V
          · have HX := Lib.hid (HX.out.trans (if_pos hbig))
            have hbigI : (2147483647 : Int) < (V : Int) := by omega
            clear hbig HL HNx
            go_wp2_with fail
            go_ret3
            rw [HX.out]
            exact ⟨none, 0, rfl, Sl.nil w0, Upd.refl w⟩
          · have HX := Lib.hid (HX.out.trans (if_neg hbig))
            have hbigI : (V : Int) ≤ 2147483647 := by omega
            clear hbig HL HNx hV hv
            have HSA := Lib.hid (show c ≠ i + 1 → Sl w0 (some ⟨ad.block, ad.off + (i + 1), none⟩) (b.drop (i + 1)) (c - (i + 1)) from fun e => by
              have := H.out.from_ (k := i + 1) (by omega)
              rw [if_neg e, show ad.add (i + 1) = ⟨ad.block, ad.off + (i + 1), none⟩ by simp [Addr.add]] at this
              exact this)
            have HSB := Lib.hid (show c = i + 1 → Sl w0 (some ad) (b.drop (i + 1)) 0 from fun e => by
              have := H.out.from_ (k := i + 1) (by omega)
              rw [if_pos e, show c - (i + 1) = 0 by omega] at this
              exact this)
            have HDL := Lib.hid (show (b.drop (i + 1)).length = b.length - (i + 1) from List.length_drop)
            have y1 : (0 : Int) ≤ (i : Int) + 1 := by omega
            have y2 : (i : Int) + 1 ≤ (b.length : Int) := by omega
            have y3 : (b.length : Int) ≤ (c : Int) := by omega
            have y4 : IntKind.i64.wrap ((i : Int) + 1) = (i : Int) + 1 := by rw [IntKind.wrap_i64]; omega
            have y5 : ((i : Int) + 1).toNat = i + 1 := by omega
            go_upto_region 10 with fail
            go_quiet (fail)
            clear y4 y5
            go_wp2_with fail
            all_goals go_ret3
            all_goals rw [HX.out]
            all_goals refine ⟨_, _, congrArg (fun n => Ending.returned (.tuple #[.int .i64 (V : Int), .slice _ n _, .int .i64 0])) HDL.out.symm, ?_, (Upd.refl w).drewN nq⟩
            all_goals first
              | exact HSA.out (by omega)
              | exact HSB.out (by omega)
        · have HX := Lib.hid (HNx.out hx)
          have hxI : ¬ (x.toNat : Int) < 128 := by omega
          go_wp2_with fail
          go_roundg (gk - 1)
          case measure => omega
          case rel => exact ⟨i + 1, V, by omega, by go_num, rfl, HX.out, rfl⟩
    · have HX := Lib.hid (HD.out.long (by omega))
      go_wp2_with fail
      go_ret3
      rw [HX.out]
      exact ⟨none, 0, rfl, Sl.nil w0, Upd.refl w⟩
end Go.Proofs.Ytiiolpchefldlaa
