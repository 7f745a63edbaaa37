import Derived.Test.YtafmkjlkeffmfaaAwk
namespace Go.Proofs.Ytafmkjlkeffmfaa
open Go.RowKit

/-- How many bits, and which number, the first i puts have made. -/
def PL (ks : Nat → Nat) : Nat → Nat
  | 0 => 0
  | i + 1 => PL ks i + ks i
def PV (xs ks : Nat → Nat) : Nat → Nat
  | 0 => 0
  | i + 1 => PV xs ks i + xs i % 2 ^ ks i * 2 ^ PL ks i
theorem PV_lt (xs ks : Nat → Nat) (i : Nat) : PV xs ks i < 2 ^ PL ks i := by
  induction i with
  | zero => simp [PV, PL]
  | succ i ih =>
    have h2 : xs i % 2 ^ ks i < 2 ^ ks i := Nat.mod_lt _ (Nat.two_pow_pos _)
    have h3 : xs i % 2 ^ ks i * 2 ^ PL ks i + 2 ^ PL ks i ≤ 2 ^ ks i * 2 ^ PL ks i := by rw [← Nat.succ_mul]; exact Nat.mul_le_mul_right _ h2
    rw [PV, PL, Nat.pow_add, Nat.mul_comm (2 ^ PL ks i)]
    omega
theorem PL_le (ks : Nat → Nat) (hk : ∀ i, ks i ≤ 31) (i : Nat) : PL ks i ≤ 31 * i := by
  induction i with
  | zero => simp [PL]
  | succ i ih => have := hk i; simp only [PL]; omega
theorem PL_mono (ks : Nat → Nat) (i d : Nat) : PL ks i ≤ PL ks (i + d) := by
  induction d with
  | zero => exact Nat.le_refl _
  | succ d ih => rw [← Nat.add_assoc, PL]; omega
/-- What later puts add lies above. -/
theorem PV_more (xs ks : Nat → Nat) (i d : Nat) : ∃ X, PV xs ks (i + d) = PV xs ks i + X * 2 ^ PL ks i := by
  induction d with
  | zero => exact ⟨0, by simp⟩
  | succ d ih =>
    obtain ⟨X, hX⟩ := ih
    refine ⟨X + xs (i + d) % 2 ^ ks (i + d) * 2 ^ (PL ks (i + d) - PL ks i), ?_⟩
    have e : PL ks (i + d) = (PL ks (i + d) - PL ks i) + PL ks i := by have := PL_mono ks i d; omega
    rw [← Nat.add_assoc, PV, hX, Nat.add_mul, Nat.mul_assoc, ← Nat.pow_add, ← e]
    omega
theorem PV_take (xs ks : Nat → Nat) (n i : Nat) (h : i < n) : PV xs ks n / 2 ^ PL ks i % 2 ^ ks i = xs i % 2 ^ ks i := by
  obtain ⟨d, rfl⟩ : ∃ d, n = i + 1 + d := ⟨n - (i + 1), by omega⟩
  obtain ⟨X, hX⟩ := PV_more xs ks (i + 1) d
  have hlt := PV_lt xs ks i
  have e : PV xs ks (i + 1 + d) = PV xs ks i + (xs i % 2 ^ ks i + X * 2 ^ ks i) * 2 ^ PL ks i := by
    rw [hX, PV, PL, Nat.pow_add, Nat.add_mul, Nat.mul_assoc, Nat.mul_comm (2 ^ ks i)]
    omega
  rw [e, Nat.add_mul_div_right _ _ (Nat.two_pow_pos _), Nat.div_eq_of_lt hlt, Nat.zero_add, Nat.add_mul_mod_self_right, Nat.mod_mod]

def nv (k : IntKind) (l : List Nat) : List Value := l.map fun x : Nat => Value.int k (x : Int)
def iv (k : IntKind) (l : List Int) : List Value := l.map fun x => Value.int k x
def nAt (l : List Nat) (i : Nat) : Nat := l.getD i 0
def zAt (l : List Int) (i : Nat) : Int := l.getD i 0
theorem nv_at {k : IntKind} {l : List Nat} {i : Nat} {u : Value} (hi : i < l.length) (h : (nv k l)[i]? = some u) : u = .int k ((nAt l i : Nat) : Int) := by
  rw [nv, List.getElem?_map, List.getElem?_eq_getElem hi] at h
  simpa [nAt, List.getD, hi] using h.symm
theorem iv_at {k : IntKind} {l : List Int} {i : Nat} {u : Value} (hi : i < l.length) (h : (iv k l)[i]? = some u) : u = .int k (zAt l i) := by
  rw [iv, List.getElem?_map, List.getElem?_eq_getElem hi] at h
  simpa [zAt, List.getD, hi] using h.symm

def kOf (ws : List Int) (i : Nat) : Nat := (zAt ws i % 32).toNat
theorem kOf_le (ws : List Int) (i : Nat) : kOf ws i ≤ 31 := by unfold kOf; omega
theorem mask31 (ws : List Int) (i : Nat) : bits .and .i64 (zAt ws i) 31 = (kOf ws i : Int) := by
  have h := i64_mask (zAt ws i) 5 (by decide)
  have e : (2 : Int) ^ 5 - 1 = 31 := by decide
  rw [e] at h
  rw [h, kOf]
  omega

theorem cmp_mask (x k : Nat) (hx : x < 4294967296) (hk : k ≤ 31) : ((x : Int) % 2 ^ k != bits BinOp.and IntKind.u32 (x : Int) ((2 ^ k - 1) % 4294967296)) = false := by
  have hk2 : 2 ^ k ≤ 2147483648 := Nat.pow_le_pow_right (n := 2) (by decide) hk
  have hp : 0 < 2 ^ k := Nat.two_pow_pos _
  have e1 : ((2 : Int) ^ k - 1) % 4294967296 = ((2 ^ k - 1 : Nat) : Int) := by
    rw [show (2 : Int) ^ k = ((2 ^ k : Nat) : Int) by simp]; omega
  rw [e1, u32_and_nat _ _ hx (by omega), Nat.and_two_pow_sub_one_eq_mod]
  simp

set_option maxHeartbeats 1600000 in
theorem back_any (A1 A2 : Option Addr) (d1 d2 : Nat) (us : List Nat) (ws : List Int) (w : World) (N : Nat) (h1 : Reads w (fun _ => True) 1 A1 us.length (nv .u32 us)) (h2 : Reads w (fun _ => True) 1 A2 ws.length (iv .i64 ws))
    (hu : ∀ i, nAt us i < 4294967296) (hl1 : us.length ≤ 9223372036854775807) (hl2 : ws.length ≤ 9223372036854775807)
    (hN : N ≤ us.length ∧ N ≤ ws.length ∧ N ≤ 60) (hc : (N = us.length ∧ ¬ ws.length < us.length ∧ ¬ 60 < us.length) ∨ (N = ws.length ∧ ws.length < us.length ∧ ¬ 60 < ws.length) ∨ (N = 60 ∧ 60 < us.length ∧ 60 < ws.length)) :
    Calls Try.prog 3 #[.slice A1 us.length d1, .slice A2 ws.length d2] w fun e w' => e = .returned (.bool true) ∧ Fresh w w' := by
  have H1 := Lib.hid h1
  have H2 := Lib.hid h2
  have HU := Lib.hid hu
  clear h1 h2 hu
  obtain ⟨hN1, hN2, hN3⟩ := hN
  have hb : (us.length ≤ N ∧ ¬ ws.length < us.length ∧ ¬ 60 < us.length) ∨ (ws.length ≤ N ∧ ws.length < us.length ∧ ¬ 60 < ws.length) ∨ (60 ≤ N ∧ 60 < us.length ∧ 60 < ws.length) := by omega
  clear hc
  rcases hb with ⟨b1, b2, b3⟩ | ⟨b1, b2, b3⟩ | ⟨b1, b2, b3⟩
  all_goals
    go_enter Try.func3, Try.ntmps3
    go_wp2
    go_loopg [7, 8] N (fun gk s7 s8 wr => ∃ i A c, gk + i = N ∧ s8 = .int .i64 (i : Nat) ∧ s7 = .int .i64 (PL (kOf ws) i : Nat) ∧ Hid (OW w wr w.heap.size (PL (kOf ws) i) (PV (nAt us) (kOf ws) i) A c))
    case atStart => exact ⟨0, none, 0, by omega, rfl, rfl, OW.new (Upd.refl w)⟩
    case round =>
      obtain ⟨i, A, c, hgk, rfl, rfl, H⟩ := hrel
      have hPL := PL_le (kOf ws) (kOf_le ws) i
      have hPL0 : 0 ≤ ((PL (kOf ws) i : Nat) : Int) := by omega
      by_cases hi : i < N
      · obtain ⟨ad1, u1, rfl, _, _, hu1, hc1⟩ := (H1.out.upd H.out.fr (fun _ _ h => h)).at_ (k := i) (by omega)
        obtain ⟨ad2, u2, rfl, _, _, hu2, hc2⟩ := (H2.out.upd H.out.fr (fun _ _ h => h)).at_ (k := i) (by omega)
        obtain rfl := nv_at (by omega) hu1
        obtain rfl := iv_at (by omega) hu2
        have HM := Lib.hid (mask31 ws i)
        clear hu1 hu2
        go_wp2_with fail
        rw [HM.out]
        have hkk := kOf_le ws i
        refine (put_ow H.out (nAt us i) (kOf ws i) (HU.out i) (by omega) (by omega)).mono ?_
        rintro e w1 ⟨rfl, A3, c3, H3⟩
        have H3 := Lib.hid H3
        go_wp2_with fail
        go_roundg (gk - 1)
        case measure => omega
        case rel => exact ⟨i + 1, A3, c3, by omega, by go_num, by simp [PL], H3.out⟩
      · have ei : N ≤ i := by omega
        have HE : Hid (i = N) := (by omega : i = N)
        go_wp2_with fail
        refine (bytes_any _ _ _ _ _ _ H.out.wr (by omega)).mono ?_
        rintro e w1 ⟨A3, rfl, ha3, hf3, hu3⟩
        have H3 := Lib.hid (H.out.fresh hu3)
        have HA := Lib.hid ha3
        clear ha3 hf3 hu3
        have hlen : (leb ((PL (kOf ws) i + 7) / 8) (PV (nAt us) (kOf ws) i)).length = (PL (kOf ws) i + 7) / 8 := leb_length _ _
        have hnum : num (leb ((PL (kOf ws) i + 7) / 8) (PV (nAt us) (kOf ws) i)) = PV (nAt us) (kOf ws) N := by
          rw [num_leb, HE.out]
          refine Nat.mod_eq_of_lt (Nat.lt_of_lt_of_le (PV_lt _ _ N) ?_)
          rw [show (256 : Nat) = 2 ^ 8 from rfl, ← Nat.pow_mul]
          exact Nat.pow_le_pow_right (by decide) (by omega)
        generalize hb : leb ((PL (kOf ws) i + 7) / 8) (PV (nAt us) (kOf ws) i) = b at HA hlen hnum
        have Hn := Lib.hid hnum
        have Hl := Lib.hid hlen
        clear hb hnum hlen
        go_wp2_with fail
        rw [← Hl.out]
        have HA2 : Hid (Arr w1 5 A3 b.length (bv b)) := by rw [Hl.out]; exact HA.out
        have hbl : b.length ≤ 1000 := by rw [Hl.out]; omega
        have hb8 : PL (kOf ws) N ≤ 8 * b.length := by rw [Hl.out, ← HE.out]; omega
        refine (read_o HA2.out.reads (by omega)).mono ?_
        rintro e w2 ⟨g5, A5, c5, rfl, R5, U5⟩
        have R5 := Lib.hid (R5.since H3.out.fr)
        have hne : ((b.length : Int) != ((PL (kOf ws) i : Nat) + 7) / 8) = false := by
          rw [Hl.out]; simp
        have hb7 : ((PL (kOf ws) N : Nat) + 7) / 8 = b.length := by rw [Hl.out, HE.out]
        have Hb7 := Lib.hid hb7
        clear U5 HA HA2 H3 H hb7 Hl
        go_wp2_with fail
        go_loopg [12] N (fun gk2 s12 wr2 => ∃ j, gk2 + j = N ∧ s12 = .int .i64 (j : Nat) ∧ Hid (ORd w wr2 g5 b (PL (kOf ws) j) A5 c5))
        case atStart => exact ⟨0, by omega, rfl, R5.out⟩
        case round =>
          obtain ⟨j, hgk2, rfl, R6⟩ := hrel
          have hPL2 := PL_le (kOf ws) (kOf_le ws) j
          by_cases hj : j < N
          · obtain ⟨ad1, u1, rfl, _, _, hu1, hc1⟩ := (H1.out.upd R6.out.fr (fun _ _ h => h)).at_ (k := j) (by omega)
            obtain ⟨ad2, u2, rfl, _, _, hu2, hc2⟩ := (H2.out.upd R6.out.fr (fun _ _ h => h)).at_ (k := j) (by omega)
            obtain rfl := nv_at (by omega) hu1
            obtain rfl := iv_at (by omega) hu2
            have HM := Lib.hid (mask31 ws j)
            have hkk := kOf_le ws j
            have hfit : PL (kOf ws) j + kOf ws j ≤ 8 * b.length := by
              have h1 := PL_mono (kOf ws) (j + 1) (N - (j + 1))
              rw [show j + 1 + (N - (j + 1)) = N by omega, PL] at h1
              omega
            clear hu1 hu2
            go_wp2_with fail
            rw [HM.out]
            refine (take_o R6.out (kOf ws j) (by omega) (by omega) hfit).mono ?_
            rintro e w3 ⟨rfl, R7, U7⟩
            rw [Hn.out, PV_take _ _ _ _ hj]
            have R7 := Lib.hid R7
            clear U7
            obtain ⟨ad3, u3, he3, _, _, hu3, hc3⟩ := (H1.out.upd R7.out.fr (fun _ _ h => h)).at_ (k := j) (by omega)
            injection he3 with he3
            subst he3
            obtain rfl := nv_at (by omega) hu3
            clear hu3 hc1 hc2
            have hcmp := cmp_mask (nAt us j) (kOf ws j) (HU.out j) hkk
            go_wp2_with fail
            go_quiet (fail)
            go_wp2_with fail
            go_roundg (gk - 1)
            case measure => omega
            case rel => exact ⟨j + 1, by omega, by go_num, Lib.hid (by simpa [PL] using R7.out.fresh ((Upd.refl _).drewN _))⟩
          · have ej : N ≤ j := by omega
            have HJ : Hid (j = N) := (by omega : j = N)
            go_wp2_with fail
            have hus : ((((PL (kOf ws) j : Nat) + 7) / 8 : Nat) : Int) = (b.length : Int) := by rw [HJ.out, Hb7.out]
            refine (used_any _ _ _ _ _ _ R6.out.rd (by omega)).mono ?_
            rintro e w3 ⟨rfl, rfl⟩
            rw [hus]
            clear hus
            go_wp2_with fail
            refine (awake_any _).mono ?_
            rintro e w3 ⟨rfl, u3⟩
            have R8 := Lib.hid (R6.out.fresh u3)
            go_wp2_with fail
            go_ret
            exact ⟨rfl, R8.out.fr⟩
end Go.Proofs.Ytafmkjlkeffmfaa
