import Derived.Test.YtafmkjlkeffmfaaProg
import Derived.Test.YtafmkjlkeffmfaaKit
namespace Go.Proofs.Ytafmkjlkeffmfaa
open Go.RowKit

def bv (l : List UInt8) : List Value := l.map fun b => Value.int .u8 (b.toNat : Int)
theorem bv_length (l : List UInt8) : (bv l).length = l.length := by simp [bv]
theorem bv_append (l m : List UInt8) : bv (l ++ m) = bv l ++ bv m := by simp [bv]
theorem bv_one (l : List UInt8) : ∀ u ∈ bv l, u.oneCell' = true := by
  intro u hu
  simp [bv] at hu
  obtain ⟨b, _, rfl⟩ := hu
  rfl
def leb : Nat → Nat → List UInt8
  | 0, _ => []
  | n + 1, V => UInt8.ofNat (V % 256) :: leb n (V / 256)
theorem leb_length (n V : Nat) : (leb n V).length = n := by
  induction n generalizing V with
  | zero => rfl
  | succ n ih => simp [leb, ih]
theorem leb_snoc (n V : Nat) : leb (n + 1) V = leb n V ++ [UInt8.ofNat (V / 256 ^ n % 256)] := by
  induction n generalizing V with
  | zero => simp [leb]
  | succ n ih => rw [leb, ih]; simp [leb, Nat.div_div_eq_div_mul, Nat.pow_succ, Nat.mul_comm]

theorem Try.info5 : (Try.prog.info? 5).map (fun i => (i.zero, i.size, i.bytes)) = some (some (.int .u8 0), 1, 1) := by kernel_rfl

/-- The new slice lies where the old one lay, or in a block that is new since w. -/
def Stays (w : World) (v v' : Value) : Prop := v'.ownBlock = v.ownBlock ∨ ∃ b, v'.ownBlock = some b ∧ w.heap.size ≤ b
theorem Stays.next {w w1 : World} {v v1 v2 : Value} (h : Stays w v v1) (hz : w.heap.size ≤ w1.heap.size) (h2 : v2.ownBlock = v1.ownBlock ∨ v2.ownBlock = some w1.heap.size) : Stays w v v2 := by
  rcases h2 with h2 | h2
  · rw [Stays, h2]; exact h
  · exact .inr ⟨_, h2, hz⟩

structure PutRel (g : Nat) (v : Value) (l : List UInt8) (T N : Nat) (w : World) (gk : Nat) (wr : World) (j : Nat) (A : Option Addr) (c : Nat) : Prop where
  fits : 8 * j ≤ N
  gk_ : gk + 8 * j = N
  blk : Blk wr g 27 #[.slice A (l.length + j) c, .int .u64 ((T / 256 ^ j : Nat) : Int), .int .i64 ((N - 8 * j : Nat) : Int)]
  own : wr.ownsRow 0 5 1 (.slice A (l.length + j) c) (l.length + j) (bv (l ++ leb j T))
  upd : Upd (fun i => i = g ∨ v.ownBlock = some i) w wr
  stays : Stays w v (.slice A (l.length + j) c)

def PutPost (g : Nat) (v : Value) (l : List UInt8) (T N : Nat) (w : World) (e : Ending) (w' : World) : Prop :=
  e = .returned (.tuple #[]) ∧ ∃ A c, PutRel g v l T N w (N % 8) w' (N / 8) A c

theorem pow_le_32 {k : Nat} (hk : k ≤ 32) : 2 ^ k ≤ 4294967296 := Nat.pow_le_pow_right (n := 2) (by decide) hk
theorem put_bits (word n x k : Nat) (hn : n < 8) (hw : word < 2 ^ n) (hx : x < 4294967296) (hk : k ≤ 32) :
    bits .or .u64 (word : Int) (IntKind.u64.wrap (bits .and .u64 (x : Int) (IntKind.u64.wrap (IntKind.u64.wrap (2 ^ k) - 1)) * 2 ^ n)) = ((word + x % 2 ^ k * 2 ^ n : Nat) : Int) := by
  have hk2 := pow_le_32 hk
  have hp : 0 < 2 ^ k := Nat.two_pow_pos _
  have hn2 : 2 ^ n ≤ 128 := Nat.pow_le_pow_right (n := 2) (by decide) (show n ≤ 7 by omega)
  have e1 : IntKind.u64.wrap ((2 : Int) ^ k) = ((2 ^ k : Nat) : Int) := by
    rw [show (2 : Int) ^ k = ((2 ^ k : Nat) : Int) by simp, IntKind.wrap_u64]; omega
  have e2 : IntKind.u64.wrap (((2 ^ k : Nat) : Int) - 1) = ((2 ^ k - 1 : Nat) : Int) := by
    rw [IntKind.wrap_u64]; omega
  have hm : x % 2 ^ k < 2 ^ k := Nat.mod_lt _ hp
  have h3 : x % 2 ^ k * 2 ^ n ≤ 4294967296 * 128 := Nat.mul_le_mul (by omega) hn2
  have e3 : IntKind.u64.wrap (((x % 2 ^ k : Nat) : Int) * 2 ^ n) = ((x % 2 ^ k * 2 ^ n : Nat) : Int) := by
    rw [show ((x % 2 ^ k : Nat) : Int) * 2 ^ n = ((x % 2 ^ k * 2 ^ n : Nat) : Int) by simp, IntKind.wrap_u64]; omega
  rw [e1, e2, u64_and_nat _ _ (by omega) (by omega), Nat.and_two_pow_sub_one_eq_mod, e3, u64_or_nat _ _ (by omega) (by omega)]
  congr 1
  rw [Nat.or_comm, Nat.mul_comm, ← Nat.two_pow_add_eq_or_of_lt hw]
  omega

theorem PutRel.step {g : Nat} {v : Value} {l : List UInt8} {T N : Nat} {w : World} {gk : Nat} {wr w2 : World} {j : Nat} {A A2 : Option Addr} {c c2 : Nat} {b : UInt8} (h : PutRel g v l T N w gk wr j A c) (h8 : 8 ≤ N - 8 * j) (hbyte : b.toNat = T / 256 ^ j % 256)
    (hown : w2.ownsRow 0 5 1 (.slice A2 (l.length + j + 1) c2) (l.length + j + 1) (bv (l ++ leb j T) ++ [.int .u8 (b.toNat : Int)])) (o : Obj) (hg : (wr.drew.alloc o).grownBy w2 (Value.slice A (l.length + j) c).ownBlock)
    (hat : (Value.slice A2 (l.length + j + 1) c2).ownBlock = (Value.slice A (l.length + j) c).ownBlock ∨ (Value.slice A2 (l.length + j + 1) c2).ownBlock = some (wr.drew.alloc o).heap.size) :
    PutRel g v l T N w (gk - 8) (((w2.setCell ⟨g, 0, none⟩ (.slice A2 (l.length + j + 1) c2)).setCell ⟨g, 1, none⟩ (.int .u64 ((T / 256 ^ (j + 1) : Nat) : Int))).setCell ⟨g, 2, none⟩ (.int .i64 ((N - 8 * (j + 1) : Nat) : Int))) (j + 1) A2 c2 := by
  have hne := own_blk_ne h.own h.blk (by decide)
  have hb1 : Blk w2 g 27 _ := (h.blk.drew.alloc o).grown hg (fun e => hne e.symm)
  have hst : Stays w v (.slice A2 (l.length + j + 1) c2) := h.stays.next (by have := h.upd.size; simp; omega) hat
  have hu : Upd (fun i => i = g ∨ v.ownBlock = some i) w w2 := (h.upd.drew.alloc o).grown hg fun i hi hlt => by
    rcases h.stays with hs | ⟨b', hs, hb'⟩
    · rw [hs] at hi; exact .inr hi
    · rw [hs] at hi; injection hi with hi; omega
  have hn2 : (Value.slice A2 (l.length + j + 1) c2).ownBlock ≠ some g := own_blk_ne hown hb1 (by decide)
  have hd : ∀ k, (Value.slice A2 (l.length + j + 1) c2).ownBlock = some k → ¬ (k = g) := fun k hk e => hn2 (by rw [hk, e])
  refine ⟨by omega, by have := h.gk_; omega, ?_, ?_, ?_, hst⟩
  · simpa [Nat.add_assoc] using ((hb1.set_ 0 (.slice A2 (l.length + j + 1) c2)).set_ 1 (.int .u64 ((T / 256 ^ (j + 1) : Nat) : Int))).set_ 2 (.int .i64 ((N - 8 * (j + 1) : Nat) : Int))
  · have e : bv (l ++ leb (j + 1) T) = bv (l ++ leb j T) ++ [.int .u8 (b.toNat : Int)] := by
      rw [leb_snoc, ← List.append_assoc, bv_append _ [_], ← hbyte]
      simp [bv]
    show World.ownsRow _ 0 5 1 (.slice A2 (l.length + (j + 1)) c2) (l.length + (j + 1)) _
    rw [e]
    exact owns_upd (owns_upd (owns_upd hown (upd_set w2 ⟨g, 0, none⟩ _) hd) (upd_set _ ⟨g, 1, none⟩ _) hd) (upd_set _ ⟨g, 2, none⟩ _) hd
  · exact ((hu.setCell (fun _ => .inl rfl) _).setCell (fun _ => .inl rfl) _).setCell (fun _ => .inl rfl) _

/-- How many bits a call for m bits puts. -/
def clamp (m : Int) : Nat := (min (max m 0) 32).toNat
theorem clamp_le (m : Int) : clamp m ≤ 32 := by unfold clamp; omega
theorem clamp_of (k : Nat) (h : k ≤ 32) : clamp (k : Int) = k := by unfold clamp; omega

set_option maxHeartbeats 800000 in
theorem put_any (g : Nat) (A : Option Addr) (c : Nat) (l : List UInt8) (word n x k : Nat) (m : Int) (w : World) (hb : Blk w g 27 #[.slice A l.length c, .int .u64 word, .int .i64 n]) (ho : w.ownsRow 0 5 1 (.slice A l.length c) l.length (bv l)) (hn : n < 8) (hw : word < 2 ^ n) (hx : x < 4294967296) (hk : k ≤ 32)
    (hm : (m < 0 ∧ k = 0) ∨ (0 ≤ m ∧ m ≤ 32 ∧ m = k) ∨ (32 < m ∧ k = 32)) (hl : l.length ≤ 70368744177664) :
    Calls Try.prog 7 #[.pointer (some ⟨g, 0, none⟩), .int .u32 x, .int .i64 m] w (PutPost g (.slice A l.length c) l (word + x % 2 ^ k * 2 ^ n) (n + k) w) := by
  obtain ⟨i0, hi0, hz0, hz1, hz2⟩ := info_parts Try.info5
  have c0 := hb.cell 0
  have c1 := hb.cell 1
  have c2 := hb.cell 2
  have f0 := hb.frozen 0
  have f1 := hb.frozen 1
  have f2 := hb.frozen 2
  simp at c0 c1 c2
  have HB := Lib.hid (put_bits word n x k hn hw hx hk)
  have Ho := Lib.hid ho
  clear ho
  have Hm := Lib.hid hm
  clear hm
  go_enter Try.func7, Try.ntmps7
  go_upto_region 0 with fail
  go_cut [2] (fun s2 wx => w = wx ∧ s2 = .int .i64 (k : Int))
  case first =>
    rcases Hm.out with ⟨h1, h2⟩ | ⟨h1, h2, h3⟩ | ⟨h1, h2⟩
    · have H2 := Lib.hid h2
      clear h2
      go_wp2_with fail
      go_meet
      exact ⟨rfl, by rw [H2.out]; rfl⟩
    · have H3 := Lib.hid h3
      clear h3
      go_wp2_with fail
      go_meet
      exact ⟨rfl, by rw [H3.out]⟩
    · have H2 := Lib.hid h2
      clear h2
      go_wp2_with fail
      go_meet
      exact ⟨rfl, by rw [H2.out]; rfl⟩
  obtain ⟨rfl, rfl⟩ := hcut
  go_wp2
  go_region
  go_wp2
  rw [HB.out]
  generalize hT : word + x % 2 ^ k * 2 ^ n = T
  go_loopg [] (n + k) (fun gk wr => ∃ j A' c', PutRel g (.slice A l.length c) l T (n + k) w gk wr j A' c')
  case atStart =>
    have hne := own_blk_ne Ho.out hb (by decide)
    have hd : ∀ i, (Value.slice A l.length c).ownBlock = some i → ¬ (i = g) := fun i hi e => hne (by rw [hi, e])
    refine ⟨0, A, c, by omega, by omega, ?_, ?_, ?_, Or.inl rfl⟩
    · simpa using ((hb.set_ 1 (.int .u64 (T : Int))).set_ 2 (.int .i64 ((n : Int) + k))).drew
    · simp only [leb, List.append_nil, Nat.add_zero]
      exact owns_upd (owns_upd Ho.out (upd_set w ⟨g, 1, none⟩ _) hd) ((upd_set _ ⟨g, 2, none⟩ _).drew) hd
    · exact (((Upd.refl w).setCell (fun _ => Or.inl rfl) _).setCell (fun _ => Or.inl rfl) _).drew
  case round =>
    obtain ⟨j, A1, d1, hr⟩ := hrel
    have HR := Lib.hid hr
    have c0 := hr.blk.cell 0
    have c1 := hr.blk.cell 1
    have c2 := hr.blk.cell 2
    have f0 := hr.blk.frozen 0
    have f1 := hr.blk.frozen 1
    have f2 := hr.blk.frozen 2
    simp only [List.getElem?_toArray, List.getElem?_cons_zero, List.getElem?_cons_succ] at c0 c1 c2
    have hfit := hr.fits
    have hgk := hr.gk_
    have hne := own_blk_ne hr.own hr.blk (by decide)
    have hlt := hr.blk.lt
    have hblk := hr.blk
    clear hr
    by_cases h8 : 8 ≤ n + k - 8 * j
    · have Hblk := Lib.hid hblk
      have Hne := Lib.hid hne
      clear hblk hne
      go_wp2
      go_region_law
        (first
          | (refine step_append_any _ rfl (.tmp 51) (.tmp 57) 24 rfl 5 i0 _ 1 1 Try.underlying24 hi0 hz0 hz1 hz2 rfl (by omega) (.slice A1 (l.length + j) d1) (l.length + j) (bv (l ++ leb j T)) rfl (HR.out.own.drew.alloc _) (fun _ => True) (some ⟨wr.heap.size, 0, none⟩) 1 1 _ rfl ⟨rfl, fun _ => ⟨_, rfl, trivial, by simp, cell_one_new _ _ _⟩⟩ (by simp [Value.oneCell']) (by unfold maxLen; omega) (by omega) ?_
             intro A2 d2 w2 hown2 hg2 hat2
             have hb2 := (Hblk.out.drew.alloc (.cells #[.int .u8 (IntKind.u8.wrap ((T / 256 ^ j : Nat) : Int))] 5)).grown hg2 (fun e => Hne.out e.symm)
             have k0 : w2.cell? ⟨g, 0, none⟩ = some (.slice A1 (l.length + j) d1) := hb2.cell 0
             have k1 : w2.cell? ⟨g, 1, none⟩ = some (.int .u64 ((T / 256 ^ j : Nat) : Int)) := hb2.cell 1
             have k2 : w2.cell? ⟨g, 2, none⟩ = some (.int .i64 ((n + k - 8 * j : Nat) : Int)) := hb2.cell 2
             have q0 := hb2.frozen 0
             have q1 := hb2.frozen 1
             have q2 := hb2.frozen 2
             clear hb2))
      all_goals go_wp2
      all_goals go_roundg (gk - 8)
      any_goals omega
      all_goals
        have hw8 : IntKind.u8.wrap ((T : Int) / 256 ^ j) = ((UInt8.ofNat (T / 256 ^ j % 256)).toNat : Int) := by
          have e0 : (T : Int) / 256 ^ j = ((T / 256 ^ j : Nat) : Int) := by simp
          rw [e0, IntKind.wrap_u8, UInt8.toNat_ofNat']; omega
        rw [hw8] at hown2
        have e1 : (T : Int) / 256 ^ j / 256 = ((T / 256 ^ (j + 1) : Nat) : Int) := by
          rw [Nat.pow_succ, ← Nat.div_div_eq_div_mul]; simp
        have e2 : ((n + k - 8 * j : Nat) : Int) - 8 = ((n + k - 8 * (j + 1) : Nat) : Int) := by omega
        rw [e1, e2]
        exact ⟨j + 1, A2, d2, HR.out.step h8 (by rw [UInt8.toNat_ofNat']; omega) hown2 _ hg2 hat2⟩
    · go_wp2
      go_end0
      have ej : j = (n + k) / 8 := by omega
      have eg : gk = (n + k) % 8 := by omega
      subst ej
      subst eg
      exact ⟨rfl, A1, d1, HR.out⟩

/-! ### The stream of bits as a number -/
theorem leb_add (a b V : Nat) : leb (a + b) V = leb a V ++ leb b (V / 256 ^ a) := by
  induction a generalizing V with
  | zero => simp [leb]
  | succ a ih => rw [show a + 1 + b = (a + b) + 1 by omega, leb, ih]; simp [leb, Nat.div_div_eq_div_mul, Nat.pow_succ, Nat.mul_comm]
theorem leb_mod (a b V X : Nat) (h : a ≤ b) : leb a (V + X * 256 ^ b) = leb a V := by
  induction a generalizing V b with
  | zero => rfl
  | succ a ih =>
    obtain ⟨b, rfl⟩ : ∃ b', b = b' + 1 := ⟨b - 1, by omega⟩
    have e : V + X * 256 ^ (b + 1) = V + 256 * (X * 256 ^ b) := by rw [Nat.pow_succ, ← Nat.mul_assoc, Nat.mul_comm _ 256]
    rw [leb, leb, e, Nat.add_mul_mod_self_left, Nat.add_mul_div_left _ _ (by decide), ih b _ (by omega)]

/-- A Writer at block g holds L bits, the number V. -/
structure WR (w : World) (g L V : Nat) (A : Option Addr) (c : Nat) : Prop where
  blk : Blk w g 27 #[.slice A (L / 8) c, .int .u64 ((V / 256 ^ (L / 8) : Nat) : Int), .int .i64 ((L % 8 : Nat) : Int)]
  own : w.ownsRow 0 5 1 (.slice A (L / 8) c) (L / 8) (bv (leb (L / 8) V))
  lt : V < 2 ^ L

structure PutDone (g L V : Nat) (A : Option Addr) (w : World) (k x : Nat) (w' : World) (A' : Option Addr) (c' : Nat) : Prop where
  wr : WR w' g (L + k) (V + x % 2 ^ k * 2 ^ L) A' c'
  upd : Upd (fun i => i = g ∨ (A.map (·.block)) = some i) w w'
  stays : A'.map (·.block) = A.map (·.block) ∨ ∃ b, A'.map (·.block) = some b ∧ w.heap.size ≤ b

theorem ownBlock_map (A : Option Addr) (n c : Nat) : (Value.slice A n c).ownBlock = A.map (·.block) := by cases A <;> rfl

theorem put_wr (g L V : Nat) (A : Option Addr) (c : Nat) (x : Nat) (m : Int) (w : World) (h : WR w g L V A c) (hx : x < 4294967296) (hl : L ≤ 562949953421312) :
    Calls Try.prog 7 #[.pointer (some ⟨g, 0, none⟩), .int .u32 x, .int .i64 m] w fun e w' => e = .returned (.tuple #[]) ∧ ∃ A' c', PutDone g L V A w (clamp m) x w' A' c' := by
  have hk := clamp_le m
  have hm : (m < 0 ∧ clamp m = 0) ∨ (0 ≤ m ∧ m ≤ 32 ∧ m = clamp m) ∨ (32 < m ∧ clamp m = 32) := by unfold clamp; omega
  generalize clamp m = k at hk hm ⊢
  have hlen : (leb (L / 8) V).length = L / 8 := leb_length _ _
  have hp : (256 : Nat) ^ (L / 8) = 2 ^ (8 * (L / 8)) := by rw [show (256 : Nat) = 2 ^ 8 from rfl, ← Nat.pow_mul]
  have hw : V / 256 ^ (L / 8) < 2 ^ (L % 8) := by
    rw [Nat.div_lt_iff_lt_mul (Nat.pow_pos (by decide)), hp, ← Nat.pow_add, show L % 8 + 8 * (L / 8) = L by omega]
    exact h.lt
  have hput := put_any g A c (leb (L / 8) V) (V / 256 ^ (L / 8)) (L % 8) x k m w (by rw [hlen]; exact h.blk) (by rw [hlen]; exact h.own) (by omega) hw hx hk hm (by rw [hlen]; omega)
  refine hput.mono ?_
  rintro e w' ⟨he, A', c', hr⟩
  refine ⟨he, A', c', ?_, ?_, ?_⟩
  · have e1 : L / 8 + (L % 8 + k) / 8 = (L + k) / 8 := by omega
    have e2 : L % 8 + k - 8 * ((L % 8 + k) / 8) = (L + k) % 8 := by omega
    have eV : V / 256 ^ (L / 8) + x % 2 ^ k * 2 ^ (L % 8) = (V + x % 2 ^ k * 2 ^ L) / 256 ^ (L / 8) := by
      have e3 : (2 : Nat) ^ L = 2 ^ (L % 8) * 256 ^ (L / 8) := by rw [hp, ← Nat.pow_add]; congr 1; omega
      rw [e3, ← Nat.mul_assoc, Nat.add_mul_div_right _ _ (Nat.pow_pos (by decide))]
    have hb := hr.blk
    have ho := hr.own
    rw [hlen, eV, e1, e2, Nat.div_div_eq_div_mul, ← Nat.pow_add, e1] at hb
    have e4 : leb (L / 8) V ++ leb ((L % 8 + k) / 8) ((V + x % 2 ^ k * 2 ^ L) / 256 ^ (L / 8)) = leb ((L + k) / 8) (V + x % 2 ^ k * 2 ^ L) := by
      have e3 : (2 : Nat) ^ L = 2 ^ (L % 8) * 256 ^ (L / 8) := by rw [hp, ← Nat.pow_add]; congr 1; omega
      rw [← e1, leb_add, e3, ← Nat.mul_assoc, leb_mod _ _ _ _ (Nat.le_refl _)]
    rw [hlen, eV, e4, e1] at ho
    refine ⟨hb, ho, ?_⟩
    have h1 := h.lt
    have h2 : x % 2 ^ k < 2 ^ k := Nat.mod_lt _ (Nat.pow_pos (by decide))
    rw [Nat.pow_add]
    have h3 : x % 2 ^ k * 2 ^ L + 2 ^ L ≤ 2 ^ k * 2 ^ L := by rw [← Nat.succ_mul]; exact Nat.mul_le_mul_right _ h2
    rw [Nat.mul_comm (2 ^ L)]
    omega
  · have := hr.upd
    rw [hlen, ownBlock_map] at this
    exact this
  · have := hr.stays
    rw [Stays, hlen, ownBlock_map, ownBlock_map] at this
    exact this
end Go.Proofs.Ytafmkjlkeffmfaa
