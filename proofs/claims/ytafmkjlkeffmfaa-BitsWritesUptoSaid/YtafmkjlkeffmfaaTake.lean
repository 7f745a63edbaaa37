import Derived.Test.YtafmkjlkeffmfaaByt
namespace Go.Proofs.Ytafmkjlkeffmfaa
open Go.RowKit

def TakeNo (w : World) (e : Ending) (w' : World) : Prop := e = .returned (.tuple #[.int .u32 0, .bool false]) ∧ ∃ m, w' = w.drewN m

set_option maxHeartbeats 400000 in
theorem take_no (g : Nat) (b : List UInt8) (k : Nat) (A : Option Addr) (c : Nat) (n : Int) (w : World) (h : RD w g b k A c) (hl : b.length ≤ 140737488355328) (hk : k ≤ 8 * b.length) (hn : n < 0 ∨ 32 < n ∨ 8 * b.length - k < n) (hn1 : -9223372036854775808 ≤ n) (hn2 : n ≤ 9223372036854775807) :
    Calls Try.prog 10 #[.pointer (some ⟨g, 0, none⟩), .int .i64 n] w (TakeNo w) := by
  have c0 := h.blk.cell 0
  have c1 := h.blk.cell 1
  simp only [List.getElem?_toArray, List.getElem?_cons_zero, List.getElem?_cons_succ] at c0 c1
  by_cases h1 : n < 0
  · go_enter Try.func10, Try.ntmps10
    go_wp2
    go_quiet (fail)
    go_wp2
    go_ret2
    exact ⟨rfl, _, rfl⟩
  · have d1 : decide (n < 0) = false := by simpa using h1
    by_cases h2 : 32 < n
    · go_enter Try.func10, Try.ntmps10
      go_wp2
      go_quiet (fail)
      go_wp2
      go_ret2
      exact ⟨rfl, _, rfl⟩
    · have d2 : decide (32 < n) = false := by simpa using h2
      have h3 : 8 * (b.length : Int) - k < n := by omega
      go_enter Try.func10, Try.ntmps10
      go_wp2
      go_quiet (fail)
      go_wp2
      go_ret2
      exact ⟨rfl, _, rfl⟩

/-- Bytes as a number, the lowest first. -/
def num : List UInt8 → Nat
  | [] => 0
  | b :: l => b.toNat + 256 * num l
theorem num_lt (l : List UInt8) : num l < 256 ^ l.length := by
  induction l with
  | nil => simp [num]
  | cons b l ih =>
    have := b.toNat_lt
    simp only [num, List.length_cons, Nat.pow_succ]
    omega
theorem num_leb (n V : Nat) : num (leb n V) = V % 256 ^ n := by
  induction n generalizing V with
  | zero => simp [leb, num, Nat.mod_one]
  | succ n ih =>
    have e : V % 256 % 2 ^ 8 = V % 256 := by omega
    rw [leb, num, ih, UInt8.toNat_ofNat', e, show (256 : Nat) ^ (n + 1) = 256 * 256 ^ n by rw [Nat.pow_succ, Nat.mul_comm], Nat.mod_mul]
theorem num_at (l : List UInt8) (i : Nat) (h : i < l.length) : num l / 256 ^ i % 256 = (l[i]'h).toNat := by
  induction l generalizing i with
  | nil => simp at h
  | cons b l ih =>
    have := b.toNat_lt
    rcases i with _ | i
    · simp [num]
    · have e : num (b :: l) / 256 ^ (i + 1) = num l / 256 ^ i := by
        rw [Nat.pow_succ, Nat.mul_comm, ← Nat.div_div_eq_div_mul]
        congr 1
        simp [num]; omega
      rw [e, ih i (by simpa using h)]
      rfl
theorem mod_join (x a k : Nat) : x % 2 ^ a + x / 2 ^ a % 2 ^ k * 2 ^ a = x % 2 ^ (a + k) := by
  rw [Nat.pow_add, Nat.mod_mul, Nat.mul_comm (2 ^ a)]
theorem byte_part (V at_ k : Nat) (h : at_ % 8 + k ≤ 8) : V / 256 ^ (at_ / 8) % 256 / 2 ^ (at_ % 8) % 2 ^ k = V / 2 ^ at_ % 2 ^ k := by
  have e : (256 : Nat) = 2 ^ (at_ % 8) * 2 ^ (8 - at_ % 8) := by rw [← Nat.pow_add, show at_ % 8 + (8 - at_ % 8) = 8 by omega]
  have e2 : (2 : Nat) ^ at_ = 256 ^ (at_ / 8) * 2 ^ (at_ % 8) := by
    rw [show (256 : Nat) = 2 ^ 8 from rfl, ← Nat.pow_mul, ← Nat.pow_add]; congr 1; omega
  generalize hW : V / 256 ^ (at_ / 8) = W
  rw [e2, ← Nat.div_div_eq_div_mul, hW]
  conv => lhs; rw [e]
  rw [Nat.mod_mul_right_div_self, Nat.mod_mod_of_dvd]
  exact Nat.pow_dvd_pow 2 (by omega)

theorem take_part (x s k : Nat) (hx : x < 256) (hk : k ≤ 8) : bits .and .u32 ((x : Int) / 2 ^ s) ((2 ^ k - 1) % 4294967296) = ((x / 2 ^ s % 2 ^ k : Nat) : Int) := by
  have hk2 : 2 ^ k ≤ 256 := Nat.pow_le_pow_right (n := 2) (by decide) hk
  have hp : 0 < 2 ^ k := Nat.two_pow_pos _
  have e1 : ((2 : Int) ^ k - 1) % 4294967296 = ((2 ^ k - 1 : Nat) : Int) := by
    rw [show (2 : Int) ^ k = ((2 ^ k : Nat) : Int) by simp]; omega
  have h3 : x / 2 ^ s ≤ x := Nat.div_le_self _ _
  rw [e1, show (x : Int) / 2 ^ s = ((x / 2 ^ s : Nat) : Int) by simp, u32_and_nat _ _ (by omega) (by omega), Nat.and_two_pow_sub_one_eq_mod]
theorem take_or (v p i : Nat) (hv : v < 2 ^ i) (hp : v + p * 2 ^ i < 4294967296) : bits .or .u32 (v : Int) ((p : Int) * 2 ^ i % 4294967296) = ((v + p * 2 ^ i : Nat) : Int) := by
  have e3 : (p : Int) * 2 ^ i % 4294967296 = ((p * 2 ^ i : Nat) : Int) := by
    rw [show (p : Int) * 2 ^ i = ((p * 2 ^ i : Nat) : Int) by simp]; omega
  rw [e3, u32_or_nat _ _ (by omega) (by omega)]
  congr 1
  rw [Nat.or_comm, Nat.mul_comm, ← Nat.two_pow_add_eq_or_of_lt hv]
  omega

def TakeYes (g : Nat) (b : List UInt8) (k n : Nat) (A : Option Addr) (c : Nat) (w : World) (e : Ending) (w' : World) : Prop :=
  e = .returned (.tuple #[.int .u32 ((num b / 2 ^ k % 2 ^ n : Nat) : Int), .bool true]) ∧ RD w' g b (k + n) A c ∧ Upd (fun i => i = g) w w'

structure TakeRel (g : Nat) (b : List UInt8) (k n : Nat) (A : Option Addr) (c : Nat) (w : World) (gk : Nat) (wr : World) (i X p : Nat) : Prop where
  gk_ : gk + i = n
  x_ : X = num b / 2 ^ k % 2 ^ i
  p_ : p = k + i
  rd : RD wr g b p A c
  upd : Upd (fun i => i = g) w wr

def TakeGoal (g : Nat) (b : List UInt8) (k n : Nat) (A : Option Addr) (c : Nat) (w : World) (gk : Nat) (W : World) (v6 v7 : Value) : Prop :=
  ∃ i X p : Nat, v7 = .int .i64 i ∧ v6 = .int .u32 (X : Int) ∧ TakeRel g b k n A c w gk W i X p

theorem TakeRel.step {g : Nat} {b : List UInt8} {k n : Nat} {A : Option Addr} {c : Nat} {w : World} {gk : Nat} {wr : World} {i X p : Nat} (h : TakeRel g b k n A c w gk wr i X p) (hn : n ≤ 32) (hne : A.map (·.block) ≠ some g)
    (kk B nq : Nat) (hB : B = num b / 256 ^ (p / 8) % 256) (k1 : kk + p % 8 ≤ 8) (k2 : 0 < kk) (k3 : kk ≤ n - i) :
    TakeGoal g b k n A c w (n - i - kk) ((wr.drewN nq).setCell ⟨g, 1, none⟩ (.int .i64 ((p : Int) + kk))) (.int .u32 (bits .or .u32 (X : Int) (bits .and .u32 ((B : Int) / 2 ^ (p % 8)) ((2 ^ kk - 1) % 4294967296) * 2 ^ i % 4294967296))) (.int .i64 ((i : Int) + kk)) := by
  have hx := h.x_
  have hB8 : B < 256 := by omega
  have hpart := byte_part (num b) p kk (by omega)
  have hXlt : X < 2 ^ i := by rw [hx]; exact Nat.mod_lt _ (Nat.two_pow_pos _)
  have e0 : X + B / 2 ^ (p % 8) % 2 ^ kk * 2 ^ i = num b / 2 ^ k % 2 ^ (i + kk) := by
    rw [hB, hpart, hx, h.p_, Nat.pow_add, ← Nat.div_div_eq_div_mul, mod_join]
  have hlt : num b / 2 ^ k % 2 ^ (i + kk) < 2 ^ (i + kk) := Nat.mod_lt _ (Nat.two_pow_pos _)
  have h32 := pow_le_32 (k := i + kk) (by omega)
  rw [take_part _ _ _ hB8 (by omega), take_or _ _ _ hXlt (by omega), e0]
  have hgk := h.gk_
  have hp := h.p_
  refine ⟨i + kk, _, p + kk, by simp, rfl, by omega, rfl, by omega, ⟨?_, ?_⟩, ?_⟩
  · simpa using (h.rd.blk.drewN nq).set_ 1 (.int .i64 ((p : Int) + kk))
  · exact (h.rd.arr.upd ((Upd.refl wr).drewN nq) (fun _ _ h => h)).upd (upd_set _ ⟨g, 1, none⟩ _) (fun k' hk' e => hne (by rw [hk']; exact congrArg some e))
  · exact (h.upd.drewN nq).setCell (fun _ => rfl) _

set_option maxHeartbeats 800000 in
theorem take_yes (g : Nat) (b : List UInt8) (k n : Nat) (A : Option Addr) (c : Nat) (w : World) (h : RD w g b k A c) (hne : A.map (·.block) ≠ some g) (hl : b.length ≤ 140737488355328) (hn : n ≤ 32) (hk : k + n ≤ 8 * b.length) :
    Calls Try.prog 10 #[.pointer (some ⟨g, 0, none⟩), .int .i64 n] w (TakeYes g b k n A c w) := by
  have c0 := h.blk.cell 0
  have c1 := h.blk.cell 1
  simp only [List.getElem?_toArray, List.getElem?_cons_zero, List.getElem?_cons_succ] at c0 c1
  have h1 : decide ((n : Int) < 0) = false := by simp
  have h2 : decide ((32 : Int) < n) = false := by simp; omega
  have h3 : decide (8 * (b.length : Int) - k < n) = false := by simp; omega
  have H := Lib.hid h
  clear h
  go_enter Try.func10, Try.ntmps10
  go_wp2
  go_quiet (fail)
  go_wp2
  go_loopg [6, 7] n (fun gk v s wr => ∃ i X p : Nat, s = .int .i64 i ∧ v = .int .u32 (X : Int) ∧ TakeRel g b k n A c w gk wr i X p)
  case atStart =>
    exact ⟨0, 0, k, rfl, rfl, by omega, by simp [Nat.mod_one], rfl, ⟨H.out.blk.drewN _, H.out.arr.upd ((Upd.refl w).drewN _) (fun _ _ h => h)⟩, (Upd.refl w).drewN _⟩
  case round =>
    obtain ⟨i, X, p, rfl, rfl, hr⟩ := hrel
    have HR := Lib.hid hr
    have c0 := hr.rd.blk.cell 0
    have c1 := hr.rd.blk.cell 1
    have f1 := hr.rd.blk.frozen 1
    simp only [List.getElem?_toArray, List.getElem?_cons_zero, List.getElem?_cons_succ] at c0 c1
    have hgk := hr.gk_
    have hp := hr.p_
    by_cases hi : i < n
    · have hpb : p / 8 < b.length := by omega
      obtain ⟨ad, u, hA, hS, hlt, hu, hcell⟩ := hr.rd.arr.reads.at_ (k := p / 8) hpb
      subst hA
      have hu2 : u = .int .u8 ((b[p / 8].toNat : Nat) : Int) := by
        rw [bv, List.getElem?_map, List.getElem?_eq_getElem hpb] at hu
        simpa using hu.symm
      subst hu2
      have hB := (b[p / 8]).toNat_lt
      have HX : Hid (X = num b / 2 ^ k % 2 ^ i) := hr.x_
      have hXlt : X < 2 ^ i := by rw [HX.out]; exact Nat.mod_lt _ (Nat.two_pow_pos _)
      have HB := Lib.hid (num_at b (p / 8) hpb)
      generalize (b[p / 8]).toNat = B at hB hcell HB
      have HP := Lib.hid hp
      have HXl := Lib.hid hXlt
      clear hr hu hp hXlt
      have hp8 : p < 8 * b.length := by omega
      have x1 : (0 : Int) ≤ (p : Int) / 8 := by omega
      have x2 : (p : Int) / 8 < (b.length : Int) := by omega
      have x3 : (0 : Int) ≤ (p : Int) % 8 := by omega
      by_cases hm : 8 - p % 8 ≤ n - i
      · have m1 : (8 : Int) - (p : Int) % 8 ≤ (n : Int) - i := by omega
        go_wp2
        have ek : (8 : Int) - (p : Int) % 8 = ((8 - p % 8 : Nat) : Int) := by omega
        have k1 : 8 - p % 8 + p % 8 ≤ 8 := by omega
        have k2 : 0 < 8 - p % 8 := by omega
        simp only [ek]
        clear ek m1
        generalize 8 - p % 8 = kk at k1 k2 hm ⊢
        go_quiet (fail)
        go_wp2
        go_roundg (n - i - kk)
        case measure => omega
        case rel => exact HR.out.step hn hne kk B _ HB.out.symm k1 k2 hm
      · have m1 : ¬ (8 : Int) - (p : Int) % 8 ≤ (n : Int) - i := by omega
        go_wp2
        have ek : (n : Int) - i = ((n - i : Nat) : Int) := by omega
        have k1 : n - i + p % 8 ≤ 8 := by omega
        have k2 : 0 < n - i := by omega
        have k3 : n - i ≤ n - i := Nat.le_refl _
        obtain ⟨kk, hkk⟩ : ∃ kk, n - i = kk := ⟨_, rfl⟩
        simp only [ek]
        rw [hkk] at k1 k2 ⊢
        have k3 : kk ≤ n - i := by omega
        clear ek m1 hkk
        go_quiet (fail)
        go_wp2
        go_roundg (n - i - kk)
        case measure => omega
        case rel => exact HR.out.step hn hne kk B _ HB.out.symm k1 k2 k3
    · clear hr
      go_wp2
      go_ret2
      have ei : i = n := by omega
      subst ei
      have hx := HR.out.x_
      have hp := HR.out.p_
      subst hx
      subst hp
      exact ⟨rfl, HR.out.rd, HR.out.upd⟩
end Go.Proofs.Ytafmkjlkeffmfaa
