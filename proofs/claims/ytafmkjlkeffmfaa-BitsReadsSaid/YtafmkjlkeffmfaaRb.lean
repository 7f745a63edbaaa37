import Derived.Test.YtafmkjlkeffmfaaRd
namespace Go.Proofs.Ytafmkjlkeffmfaa
open Go.RowKit

/-- The reference's reader: n bytes b, at bits of them taken. -/
structure RB (w : World) (g : Nat) (b : List UInt8) (at_ : Nat) (A : Option Addr) (c : Nat) : Prop where
  blk : Blk w g 43 #[.slice A b.length c, .int .i64 (at_ : Int)]
  arr : Arr w 5 A b.length (bv b)


theorem RB.keep {F : Nat → Prop} {w w' : World} {g k : Nat} {b : List UInt8} {A : Option Addr} {c : Nat} (h : RB w g b k A c) (hu : Upd F w w') (h1 : ¬ F g) (h2 : ∀ k, A.map (·.block) = some k → ¬ F k) : RB w' g b k A c :=
  ⟨h.blk.upd hu h1, h.arr.upd hu h2⟩

/-- A reference's reader of a call that began in w0. -/
structure ORb (w0 w : World) (g : Nat) (b : List UInt8) (k : Nat) (A : Option Addr) (c : Nat) : Prop where
  rd : RB w g b k A c
  fr : Fresh w0 w
  hg : w0.heap.size ≤ g
  ha : AB w0 A
  hne : A.map (·.block) ≠ some g
theorem ORb.keep {w0 w w' : World} {F : Nat → Prop} {g k : Nat} {b : List UInt8} {A : Option Addr} {c : Nat} (h : ORb w0 w g b k A c) (hu : Upd F w w') (hf : ∀ i, F i → w0.heap.size ≤ i) (h1 : ¬ F g) (h2 : ∀ k, A.map (·.block) = some k → ¬ F k) : ORb w0 w' g b k A c :=
  ⟨h.rd.keep hu h1 h2, h.fr.next hu hf, h.hg, h.ha, h.hne⟩
theorem ORb.fresh {w0 w w' : World} {g k : Nat} {b : List UInt8} {A : Option Addr} {c : Nat} (h : ORb w0 w g b k A c) (hu : Fresh w w') : ORb w0 w' g b k A c :=
  h.keep hu (fun _ h => h.elim) (fun h => h) (fun _ _ h => h)

theorem RB.move {w : World} {g k : Nat} {b : List UInt8} {A : Option Addr} {c : Nat} (h : RB w g b k A c) (hne : A.map (·.block) ≠ some g) (p : Nat) : RB (w.setCell ⟨g, 1, none⟩ (.int .i64 (p : Int))) g b p A c :=
  ⟨by simpa using h.blk.set_ 1 (.int .i64 (p : Int)), h.arr.upd (upd_set w ⟨g, 1, none⟩ _) (fun k' hk' e => hne (by rw [hk']; exact congrArg some e))⟩


theorem ORb.move {w0 w : World} {g k : Nat} {b : List UInt8} {A : Option Addr} {c : Nat} (h : ORb w0 w g b k A c) (p : Nat) : ORb w0 (w.setCell ⟨g, 1, none⟩ (.int .i64 (p : Int))) g b p A c :=
  ⟨h.rd.move h.hne p, h.fr.next (upd_set w ⟨g, 1, none⟩ _) (fun i hi => by simp only at hi; rw [hi]; exact h.hg), h.hg, h.ha, h.hne⟩


theorem rleft_o {w0 w : World} {g k : Nat} {b : List UInt8} {A : Option Addr} {c : Nat} (h : ORb w0 w g b k A c) (hl : b.length ≤ 140737488355328) (hk : k ≤ 8 * b.length) :
    Calls Try.prog 26 #[.pointer (some ⟨g, 0, none⟩)] w fun e w' => e = .returned (.int .i64 (8 * (b.length : Int) - k)) ∧ ∃ nq, w' = w.drewN nq := by
  have c0 := h.rd.blk.cell 0
  have c1 := h.rd.blk.cell 1
  simp only [List.getElem?_toArray, List.getElem?_cons_zero, List.getElem?_cons_succ] at c0 c1
  have t1 : IntKind.i64.wrap (8 * (b.length : Int)) = 8 * (b.length : Int) := by rw [IntKind.wrap_i64]; omega
  have t2 : IntKind.i64.wrap (8 * (b.length : Int) - k) = 8 * (b.length : Int) - k := by rw [IntKind.wrap_i64]; omega
  go_enter Try.func26, Try.ntmps26
  go_wp2
  go_quiet (fail)
  go_wp2
  go_ret
  refine ⟨?_, _, rfl⟩
  try rfl

theorem rused_o {w0 w : World} {g k : Nat} {b : List UInt8} {A : Option Addr} {c : Nat} (h : ORb w0 w g b k A c) (hk : k ≤ 1125899906842624) :
    Calls Try.prog 19 #[.pointer (some ⟨g, 0, none⟩)] w fun e w' => e = .returned (.int .i64 ((k + 7) / 8 : Nat)) ∧ w = w' := by
  have c1 := h.rd.blk.cell 1
  simp only [List.getElem?_toArray, List.getElem?_cons_zero, List.getElem?_cons_succ] at c1
  go_enter Try.func19, Try.ntmps19
  go_wp2
  go_ret
  exact ⟨by simp, rfl⟩

def RAlignO (w0 w : World) (g : Nat) (b : List UInt8) (p : Nat) (A : Option Addr) (c : Nat) (e : Ending) (w' : World) : Prop :=
  e = .returned (.tuple #[]) ∧ ORb w0 w' g b p A c ∧ Upd (fun i => i = g) w w'
theorem ralign_o {w0 w : World} {g k : Nat} {b : List UInt8} {A : Option Addr} {c : Nat} (h : ORb w0 w g b k A c) (hk : k ≤ 1125899906842624) :
    Calls Try.prog 18 #[.pointer (some ⟨g, 0, none⟩)] w (RAlignO w0 w g b ((k + 7) / 8 * 8) A c) := by
  have c1 := h.rd.blk.cell 1
  have f1 := h.rd.blk.frozen 1
  simp only [List.getElem?_toArray, List.getElem?_cons_zero, List.getElem?_cons_succ] at c1
  have H := Lib.hid h
  clear h
  go_enter Try.func18, Try.ntmps18
  go_wp2
  go_end0
  have h1 := H.out.move ((k + 7) / 8 * 8)
  rw [show (((k + 7) / 8 * 8 : Nat) : Int) = ((k : Int) + 7) / 8 * 8 by omega] at h1
  exact ⟨rfl, h1, upd_set w ⟨g, 1, none⟩ _⟩

def ROneO (w0 w : World) (g : Nat) (b : List UInt8) (k : Nat) (A : Option Addr) (c : Nat) (e : Ending) (w' : World) : Prop :=
  e = .returned (.int .u32 ((num b / 2 ^ k % 2 : Nat) : Int)) ∧ ORb w0 w' g b (k + 1) A c ∧ Upd (fun i => i = g) w w'
set_option maxHeartbeats 400000 in
theorem rone_o {w0 w : World} {g k : Nat} {b : List UInt8} {A : Option Addr} {c : Nat} (h : ORb w0 w g b k A c) (hl : b.length ≤ 140737488355328) (hk : k < 8 * b.length) :
    Calls Try.prog 27 #[.pointer (some ⟨g, 0, none⟩)] w (ROneO w0 w g b k A c) := by
  have c0 := h.rd.blk.cell 0
  have c1 := h.rd.blk.cell 1
  have f1 := h.rd.blk.frozen 1
  simp only [List.getElem?_toArray, List.getElem?_cons_zero, List.getElem?_cons_succ] at c0 c1
  have hpb : k / 8 < b.length := by omega
  obtain ⟨ad, u, hA, hS, hlt, hu, hcell⟩ := h.rd.arr.reads.at_ (k := k / 8) hpb
  subst hA
  have hu2 : u = .int .u8 ((b[k / 8].toNat : Nat) : Int) := by
    rw [bv, List.getElem?_map, List.getElem?_eq_getElem hpb] at hu
    simpa using hu.symm
  subst hu2
  have hB := (b[k / 8]).toNat_lt
  have HB := Lib.hid (num_at b (k / 8) hpb)
  generalize (b[k / 8]).toNat = B at hB hcell HB
  have H := Lib.hid h
  clear h hu
  have x1 : (0 : Int) ≤ (k : Int) / 8 := by omega
  have x2 : (k : Int) / 8 < (b.length : Int) := by omega
  have x3 : (0 : Int) ≤ (k : Int) % 8 := by omega
  go_enter Try.func27, Try.ntmps27
  go_wp2
  go_quiet (fail)
  go_wp2
  go_ret
  have hval : bits BinOp.and IntKind.u32 ((B : Int) / 2 ^ (k % 8) % 4294967296) 1 = ((num b / 2 ^ k % 2 : Nat) : Int) := by
    have h1 := byte_part (num b) k 1 (by omega)
    rw [Nat.pow_one] at h1
    rw [← h1, HB.out]
    have h3 : B / 2 ^ (k % 8) ≤ B := Nat.div_le_self _ _
    have h2 := u32_and_nat (B / 2 ^ (k % 8)) 1 (by omega) (by omega)
    have e1 : (B : Int) / 2 ^ (k % 8) = ((B / 2 ^ (k % 8) : Nat) : Int) := by simp
    rw [e1]
    generalize B / 2 ^ (k % 8) = Y at h2 h3 ⊢
    have e2 : (Y : Int) % 4294967296 = (Y : Int) := by omega
    rw [e2, show (1 : Int) = ((1 : Nat) : Int) by rfl, h2, Nat.and_one_is_mod]
  refine ⟨congrArg Ending.returned (congrArg (Value.int .u32) hval), ?_, ?_⟩
  · have h2 := (H.out.fresh ((Upd.refl w).drewN nq)).move (k + 1)
    rw [show ((k + 1 : Nat) : Int) = (k : Int) + 1 by omega] at h2
    exact h2
  · exact Upd.setCell (F := fun i => i = g) (p := ⟨g, 1, none⟩) ((Upd.refl w).drewN nq) (fun _ => rfl) _

def RTakeNo (w : World) (e : Ending) (w' : World) : Prop := e = .returned (.tuple #[.int .u32 0, .bool false]) ∧ ∃ m, w' = w.drewN m
set_option maxHeartbeats 400000 in
theorem rtake_no {w0 w : World} {g k : Nat} {b : List UInt8} {A : Option Addr} {c : Nat} (h : ORb w0 w g b k A c) (n : Int) (hl : b.length ≤ 140737488355328) (hk : k ≤ 8 * b.length) (hn : n < 0 ∨ 32 < n ∨ 8 * b.length - k < n) (hn1 : -9223372036854775808 ≤ n) (hn2 : n ≤ 9223372036854775807) :
    Calls Try.prog 14 #[.pointer (some ⟨g, 0, none⟩), .int .i64 n] w (RTakeNo w) := by
  have H := Lib.hid h
  clear h
  by_cases h1 : n < 0
  · go_enter Try.func14, Try.ntmps14
    go_wp2_with fail
    go_ret2
    exact ⟨rfl, 0, rfl⟩
  · by_cases h2 : 32 < n
    · go_enter Try.func14, Try.ntmps14
      go_wp2_with fail
      go_ret2
      exact ⟨rfl, 0, rfl⟩
    · have h3 : 8 * (b.length : Int) - k < n := by omega
      go_enter Try.func14, Try.ntmps14
      go_wp2_with fail
      refine (rleft_o H.out hl hk).mono ?_
      rintro e w1 ⟨rfl, nq, rfl⟩
      go_wp2_with fail
      go_ret2
      exact ⟨rfl, nq, rfl⟩

def RTakeYes (w0 w : World) (g : Nat) (b : List UInt8) (k n : Nat) (A : Option Addr) (c : Nat) (e : Ending) (w' : World) : Prop :=
  e = .returned (.tuple #[.int .u32 ((num b / 2 ^ k % 2 ^ n : Nat) : Int), .bool true]) ∧ ORb w0 w' g b (k + n) A c ∧ Upd (fun i => i = g) w w'
theorem rtake_step (b : List UInt8) (k i X n : Nat) (hX : X = num b / 2 ^ k % 2 ^ i) (hi : i < n) (hn : n ≤ 32) :
    bits BinOp.or IntKind.u32 (X : Int) (((num b / 2 ^ (k + i) % 2 : Nat) : Int) * 2 ^ i % 4294967296) = ((num b / 2 ^ k % 2 ^ (i + 1) : Nat) : Int) := by
  have hXlt : X < 2 ^ i := by rw [hX]; exact Nat.mod_lt _ (Nat.two_pow_pos _)
  have e0 : X + num b / 2 ^ (k + i) % 2 * 2 ^ i = num b / 2 ^ k % 2 ^ (i + 1) := by
    rw [hX, Nat.pow_add, ← Nat.div_div_eq_div_mul]
    have := mod_join (num b / 2 ^ k) i 1
    rw [Nat.pow_one] at this
    exact this
  have hlt : num b / 2 ^ k % 2 ^ (i + 1) < 2 ^ (i + 1) := Nat.mod_lt _ (Nat.two_pow_pos _)
  have h32 := pow_le_32 (k := i + 1) (by omega)
  rw [take_or _ _ _ hXlt (by omega), e0]
structure RTakeRel (w0 w : World) (g : Nat) (b : List UInt8) (k n : Nat) (A : Option Addr) (c : Nat) (gk : Nat) (wr : World) (i X : Nat) : Prop where
  gk_ : gk + i = n
  x_ : X = num b / 2 ^ k % 2 ^ i
  rd : ORb w0 wr g b (k + i) A c
  upd : Upd (fun i => i = g) w wr
set_option maxHeartbeats 800000 in
theorem rtake_yes {w0 w : World} {g k : Nat} {b : List UInt8} {A : Option Addr} {c : Nat} (h : ORb w0 w g b k A c) (n : Nat) (hl : b.length ≤ 140737488355328) (hn : n ≤ 32) (hk : k + n ≤ 8 * b.length) :
    Calls Try.prog 14 #[.pointer (some ⟨g, 0, none⟩), .int .i64 n] w (RTakeYes w0 w g b k n A c) := by
  have H := Lib.hid h
  clear h
  have h3 : ¬ 8 * (b.length : Int) - k < n := by omega
  go_enter Try.func14, Try.ntmps14
  go_wp2_with fail
  refine (rleft_o H.out hl (by omega)).mono ?_
  rintro e w1 ⟨rfl, nq, rfl⟩
  go_wp2_with fail
  go_loopg [6, 7] n (fun gk v s wr => ∃ i X : Nat, s = .int .i64 i ∧ v = .int .u32 (X : Int) ∧ RTakeRel w0 w g b k n A c gk wr i X)
  case atStart => exact ⟨0, 0, rfl, rfl, by omega, by simp [Nat.mod_one], H.out.fresh ((Upd.refl w).drewN nq), (Upd.refl w).drewN nq⟩
  case round =>
    obtain ⟨i, X, rfl, rfl, hr⟩ := hrel
    have HR := Lib.hid hr
    have hgk := hr.gk_
    clear hr
    by_cases hi : i < n
    · go_wp2_with fail
      refine (rone_o HR.out.rd hl (by omega)).mono ?_
      rintro e w2 ⟨rfl, h2, u2⟩
      have HS := Lib.hid (rtake_step b k i X n HR.out.x_ hi hn)
      have H2 := Lib.hid h2
      generalize num b / 2 ^ (k + i) % 2 = y at HS ⊢
      clear h2
      go_wp2_with fail
      go_roundg (gk - 1)
      case measure => omega
      case rel => exact ⟨i + 1, _, by go_num, by rw [HS.out], by omega, rfl, H2.out, HR.out.upd.trans u2 (fun _ _ h => h)⟩
    · have HE : Hid (i = n) := (by omega : i = n)
      go_wp2_with fail
      go_ret2
      have h1 := HR.out
      have hx := h1.x_
      have hi2 := HE.out
      subst hi2
      subst hx
      exact ⟨rfl, h1.rd, h1.upd⟩

def RBNo (w0 w : World) (g : Nat) (b : List UInt8) (p : Nat) (A : Option Addr) (c : Nat) (e : Ending) (w' : World) : Prop :=
  e = .returned (.tuple #[.slice none 0 0, .bool false]) ∧ ORb w0 w' g b p A c ∧ Upd (fun i => i = g) w w'
set_option maxHeartbeats 400000 in
theorem rrbytes_no {w0 w : World} {g k : Nat} {b : List UInt8} {A : Option Addr} {c : Nat} (h : ORb w0 w g b k A c) (n : Int) (hl : b.length ≤ 140737488355328) (hk : k ≤ 8 * b.length) (hn : n < 0 ∨ (b.length : Int) - ((k + 7) / 8 : Nat) < n) (hn1 : -9223372036854775808 ≤ n) (hn2 : n ≤ 9223372036854775807) :
    Calls Try.prog 16 #[.pointer (some ⟨g, 0, none⟩), .int .i64 n] w (RBNo w0 w g b ((k + 7) / 8 * 8) A c) := by
  have H := Lib.hid h
  clear h
  by_cases h1 : n < 0
  · go_enter Try.func16, Try.ntmps16
    go_wp2_with fail
    refine (ralign_o H.out (by omega)).mono ?_
    rintro e w1 ⟨rfl, h2, u2⟩
    have H2 := Lib.hid h2
    clear h2
    go_wp2_with fail
    go_ret2
    exact ⟨rfl, H2.out, u2⟩
  · have h3 : (b.length : Int) - ((k + 7) / 8 : Nat) < n := by omega
    have h4 : (8 * (b.length : Int) - ((k + 7) / 8 * 8 : Nat)) / 8 < n := by omega
    have h5 : (k + 7) / 8 * 8 ≤ 8 * b.length := by omega
    go_enter Try.func16, Try.ntmps16
    go_wp2_with fail
    refine (ralign_o H.out (by omega)).mono ?_
    rintro e w1 ⟨rfl, h2, u2⟩
    have H2 := Lib.hid h2
    clear h2
    obtain ⟨q, hq⟩ : ∃ q, (k + 7) / 8 * 8 = q := ⟨_, rfl⟩
    rw [hq] at H2 h4 h5
    have HQ := Lib.hid hq
    clear h3 hq
    have h6 : 0 ≤ 8 * (b.length : Int) - q := by omega
    go_wp2_with fail
    refine (rleft_o H2.out hl h5).mono ?_
    rintro e w2 ⟨rfl, nq, rfl⟩
    go_wp2_with fail
    go_ret2
    rw [HQ.out]
    exact ⟨rfl, H2.out.fresh ((Upd.refl _).drewN _), u2.drewN _⟩
end Go.Proofs.Ytafmkjlkeffmfaa
