import Derived.Test.YtafmkjlkeffmfaaTake
namespace Go.Proofs.Ytafmkjlkeffmfaa
open Go.RowKit

theorem wr_new (w : World) : WR (w.alloc (.cells #[.slice none 0 0, .int .u64 0, .int .i64 0] 27)) w.heap.size 0 0 none 0 :=
  ⟨by simpa using Blk.new w 27 #[.slice none 0 0, .int .u64 0, .int .i64 0], by simpa [leb, bv] using World.ownsRow_nil _ 0 5 1, by decide⟩

/-- The reading of one byte that a literal lays. -/
theorem reads_lit (w : World) (b : UInt8) : Reads (w.alloc (.cells #[.int .u8 (b.toNat : Int)] 5)) (fun k => k = w.heap.size) 1 (some ⟨w.heap.size, 0, none⟩) 1 (bv [b]) :=
  ⟨rfl, fun _ => ⟨_, rfl, rfl, by simp, cell_one_new _ _ _⟩⟩

theorem WR.keep {F : Nat → Prop} {w w' : World} {g L V : Nat} {A : Option Addr} {c : Nat} (h : WR w g L V A c) (hu : Upd F w w') (h1 : ¬ F g) (h2 : ∀ k, A.map (·.block) = some k → ¬ F k) : WR w' g L V A c :=
  ⟨h.blk.upd hu h1, owns_upd h.own hu (by rw [ownBlock_map]; exact h2), h.lt⟩
theorem RD.keep {F : Nat → Prop} {w w' : World} {g k : Nat} {b : List UInt8} {A : Option Addr} {c : Nat} (h : RD w g b k A c) (hu : Upd F w w') (h1 : ¬ F g) (h2 : ∀ k, A.map (·.block) = some k → ¬ F k) : RD w' g b k A c :=
  ⟨h.blk.upd hu h1, h.arr.upd hu h2⟩
theorem WR.lt_a {w : World} {g L V k : Nat} {A : Option Addr} {c : Nat} (h : WR w g L V A c) (hk : A.map (·.block) = some k) : k < w.heap.size := owns_lt h.own (by rw [ownBlock_map]; exact hk)
theorem Arr.lt_a {w : World} {e : TypeId} {A : Option Addr} {n k : Nat} {xs : List Value} (h : Arr w e A n xs) (hn : 0 < n) (hk : A.map (·.block) = some k) : k < w.heap.size := by
  obtain ⟨g, cur, rfl, hb, _⟩ := h.2 hn
  have := hb.lt
  simp at hk
  omega

theorem Fresh.next {F : Nat → Prop} {w w1 w2 : World} (h : Fresh w w1) (k : Upd F w1 w2) (hs : ∀ i, F i → w.heap.size ≤ i) : Fresh w w2 := h.trans k fun i hi hf => by have := hs i hf; omega
/-- The slice's block, if it has one, is new since w0. -/
def AB (w0 : World) (A : Option Addr) : Prop := ∀ k, A.map (·.block) = some k → w0.heap.size ≤ k
theorem AB.none_ (w0 : World) : AB w0 none := fun _ h => by simp at h

/-- A writer of a call that began in w0. -/
structure OW (w0 w : World) (g L V : Nat) (A : Option Addr) (c : Nat) : Prop where
  wr : WR w g L V A c
  fr : Fresh w0 w
  hg : w0.heap.size ≤ g
  ha : AB w0 A
theorem OW.keep {w0 w w' : World} {F : Nat → Prop} {g L V : Nat} {A : Option Addr} {c : Nat} (h : OW w0 w g L V A c) (hu : Upd F w w') (hf : ∀ i, F i → w0.heap.size ≤ i) (h1 : ¬ F g) (h2 : ∀ k, A.map (·.block) = some k → ¬ F k) : OW w0 w' g L V A c :=
  ⟨h.wr.keep hu h1 h2, h.fr.next hu hf, h.hg, h.ha⟩
theorem OW.fresh {w0 w w' : World} {g L V : Nat} {A : Option Addr} {c : Nat} (h : OW w0 w g L V A c) (hu : Fresh w w') : OW w0 w' g L V A c :=
  h.keep hu (fun _ h => h.elim) (fun h => h) (fun _ _ h => h)
theorem OW.new {w0 w : World} (h : Fresh w0 w) : OW w0 (w.alloc (.cells #[.slice none 0 0, .int .u64 0, .int .i64 0] 27)) w.heap.size 0 0 none 0 :=
  ⟨wr_new w, h.alloc _, h.size, AB.none_ _⟩

def PutO (w0 : World) (g L V : Nat) (e : Ending) (w' : World) : Prop := e = .returned (.tuple #[]) ∧ ∃ A' c', OW w0 w' g L V A' c'
theorem put_om {w0 w : World} {g L V : Nat} {A : Option Addr} {c : Nat} (h : OW w0 w g L V A c) (x : Nat) (m : Int) (hx : x < 4294967296) (hl : L ≤ 562949953421312) :
    Calls Try.prog 7 #[.pointer (some ⟨g, 0, none⟩), .int .u32 x, .int .i64 m] w fun e w' => e = .returned (.tuple #[]) ∧ ∃ A' c', OW w0 w' g (L + clamp m) (V + x % 2 ^ clamp m * 2 ^ L) A' c' ∧ Upd (fun i => i = g ∨ A.map (·.block) = some i) w w' ∧ (∀ k, A'.map (·.block) = some k → A.map (·.block) = some k ∨ w.heap.size ≤ k) := by
  refine (put_wr g L V A c x m w h.wr hx hl).mono ?_
  rintro e w' ⟨rfl, A', c', hp⟩
  refine ⟨rfl, A', c', ⟨hp.wr, h.fr.next hp.upd ?_, h.hg, ?_⟩, hp.upd, ?_⟩
  · rintro i (rfl | hi)
    · exact h.hg
    · exact h.ha i hi
  · intro k' hk'
    rcases hp.stays with hs | ⟨b, hs, hb⟩
    · exact h.ha k' (by rw [← hs]; exact hk')
    · rw [hs] at hk'; injection hk' with hk'
      have := h.fr.size
      omega
  · intro k' hk'
    rcases hp.stays with hs | ⟨b, hs, hb⟩
    · exact .inl (by rw [← hs]; exact hk')
    · rw [hs] at hk'; injection hk' with hk'
      exact .inr (by omega)
theorem put_ow {w0 w : World} {g L V : Nat} {A : Option Addr} {c : Nat} (h : OW w0 w g L V A c) (x k : Nat) (hx : x < 4294967296) (hk : k ≤ 32) (hl : L ≤ 562949953421312) :
    Calls Try.prog 7 #[.pointer (some ⟨g, 0, none⟩), .int .u32 x, .int .i64 k] w (PutO w0 g (L + k) (V + x % 2 ^ k * 2 ^ L)) := by
  have h1 := put_om h x (k : Int) hx hl
  rw [clamp_of k hk] at h1
  exact h1.mono fun e w' ⟨he, A', c', ho, _, _⟩ => ⟨he, A', c', ho⟩

/-- A reader of a call that began in w0. -/
structure ORd (w0 w : World) (g : Nat) (b : List UInt8) (k : Nat) (A : Option Addr) (c : Nat) : Prop where
  rd : RD w g b k A c
  fr : Fresh w0 w
  hg : w0.heap.size ≤ g
  ha : AB w0 A
  hne : A.map (·.block) ≠ some g
theorem ORd.keep {w0 w w' : World} {F : Nat → Prop} {g k : Nat} {b : List UInt8} {A : Option Addr} {c : Nat} (h : ORd w0 w g b k A c) (hu : Upd F w w') (hf : ∀ i, F i → w0.heap.size ≤ i) (h1 : ¬ F g) (h2 : ∀ k, A.map (·.block) = some k → ¬ F k) : ORd w0 w' g b k A c :=
  ⟨h.rd.keep hu h1 h2, h.fr.next hu hf, h.hg, h.ha, h.hne⟩
theorem ORd.fresh {w0 w w' : World} {g k : Nat} {b : List UInt8} {A : Option Addr} {c : Nat} (h : ORd w0 w g b k A c) (hu : Fresh w w') : ORd w0 w' g b k A c :=
  h.keep hu (fun _ h => h.elim) (fun h => h) (fun _ _ h => h)
theorem ORd.since {w0 w w' : World} {g k : Nat} {b : List UInt8} {A : Option Addr} {c : Nat} (h : ORd w w' g b k A c) (hu : Fresh w0 w) : ORd w0 w' g b k A c :=
  ⟨h.rd, hu.trans h.fr (fun _ _ h => h), Nat.le_trans hu.size h.hg, fun k hk => Nat.le_trans hu.size (h.ha k hk), h.hne⟩

def ReadO (b : List UInt8) (w : World) (e : Ending) (w' : World) : Prop := ∃ g A c, e = .returned (.pointer (some ⟨g, 0, none⟩)) ∧ ORd w w' g b 0 A c ∧ Fresh w w'
theorem read_o {S : Nat → Prop} {A : Option Addr} {c : Nat} {b : List UInt8} {w : World} (h : Reads w S 1 A b.length (bv b)) (hl : b.length ≤ 140737488355328) : Calls Try.prog 9 #[.slice A b.length c] w (ReadO b w) := by
  refine (read_any S A c b w h hl).mono ?_
  rintro e w' ⟨g, A', c', rfl, hrd, hg, ha, hne, hu, _⟩
  exact ⟨g, A', c', rfl, ⟨hrd, hu, hg, ha, hne⟩, hu⟩

def TakeO (w0 w : World) (g : Nat) (b : List UInt8) (k n : Nat) (A : Option Addr) (c : Nat) (e : Ending) (w' : World) : Prop :=
  e = .returned (.tuple #[.int .u32 ((num b / 2 ^ k % 2 ^ n : Nat) : Int), .bool true]) ∧ ORd w0 w' g b (k + n) A c ∧ Upd (fun i => i = g) w w'
theorem take_o {w0 w : World} {g k : Nat} {b : List UInt8} {A : Option Addr} {c : Nat} (h : ORd w0 w g b k A c) (n : Nat) (hl : b.length ≤ 140737488355328) (hn : n ≤ 32) (hk : k + n ≤ 8 * b.length) :
    Calls Try.prog 10 #[.pointer (some ⟨g, 0, none⟩), .int .i64 n] w (TakeO w0 w g b k n A c) := by
  refine (take_yes g b k n A c w h.rd h.hne hl hn hk).mono ?_
  rintro e w' ⟨rfl, hrd, hu⟩
  exact ⟨rfl, ⟨hrd, h.fr.next hu (fun i hi => hi ▸ h.hg), h.hg, h.ha, h.hne⟩, hu⟩

set_option maxHeartbeats 800000 in
theorem awake_any (w : World) : Calls Try.prog 12 #[] w fun e w' => e = .returned (.bool true) ∧ Fresh w w' := by
  go_enter Try.func12, Try.ntmps12
  go_wp2_with fail
  refine (put_ow (OW.new (Upd.refl w)) 1 1 (by omega) (by omega) (by omega)).mono ?_
  rintro e w1 ⟨rfl, A1, c1, H1⟩
  have H1 := Lib.hid H1
  go_wp2_with fail
  refine (put_ow H1.out 2 2 (by omega) (by omega) (by omega)).mono ?_
  rintro e w2 ⟨rfl, A2, c2, H2⟩
  have H2 : OW w w2 w.heap.size 3 5 A2 c2 := by simpa using H2
  have H2 := Lib.hid H2
  clear H1
  go_wp2_with fail
  refine (read_o (b := [5]) (by exact reads_lit w2 5) (by simp)).mono ?_
  rintro e w3 ⟨g3, A3, c3, rfl, R3, U3⟩
  have H3 := Lib.hid ((H2.out.fresh ((Upd.refl w2).alloc _)).fresh U3)
  have R3 := Lib.hid (R3.since (H2.out.fr.alloc _))
  clear U3 H2
  go_wp2_with fail
  refine (take_o R3.out 3 (by simp) (by omega) (by simp)).mono ?_
  rintro e w4 ⟨rfl, R4, U4⟩
  rw [show num [5] / 2 ^ 0 % 2 ^ 3 = 5 from rfl]
  have H4 := Lib.hid (H3.out.keep U4 (fun i hi => hi ▸ R3.out.hg) (fun e => H3.out.wr.blk.ne_ R3.out.rd.blk (by decide) e) (fun k hk e => own_blk_ne H3.out.wr.own R3.out.rd.blk (by decide) (by rw [ownBlock_map, hk, e])))
  have R4 := Lib.hid R4
  clear U4 R3 H3
  go_wp2_with fail
  refine (take_no _ _ _ _ _ 6 _ R4.out.rd (by simp) (by simp) (by right; right; simp) (by omega) (by omega)).mono ?_
  rintro e w5 ⟨rfl, nq, rfl⟩
  go_wp2_with fail
  refine (bytes_any _ _ _ _ _ _ (H4.out.wr.keep (F := fun _ => False) ((Upd.refl w4).drewN nq) (fun h => h) (fun _ _ h => h)) (by omega)).mono ?_
  rintro e w6 ⟨A6, rfl, ha6, _, u6⟩
  have H6 := Lib.hid ((H4.out.fresh ((Upd.refl w4).drewN nq)).fresh u6)
  have R6 := Lib.hid ((R4.out.fresh ((Upd.refl w4).drewN nq)).fresh u6)
  clear u6 ha6
  go_wp2_with fail
  refine (bytes_any _ _ _ _ _ _ H6.out.wr (by omega)).mono ?_
  rintro e w7 ⟨A7, rfl, ha7, _, u7⟩
  have H7 := Lib.hid (H6.out.fresh u7)
  have R7 := Lib.hid (R6.out.fresh u7)
  obtain ⟨ad, u, hA7, _, _, hu, hcell⟩ := ha7.reads.at_ (k := 0) (by omega)
  have hu2 : u = .int .u8 5 := by simpa [leb, bv] using hu.symm
  subst hA7
  subst hu2
  have hcell : w7.cell? ad = some (.int .u8 5) := hcell
  clear u7 ha7 hu
  go_wp2_with fail
  refine (used_any _ _ _ _ _ _ R7.out.rd (by omega)).mono ?_
  rintro e w8 ⟨rfl, rfl⟩
  go_wp2_with fail
  go_ret
  exact ⟨rfl, H7.out.fr⟩
end Go.Proofs.Ytafmkjlkeffmfaa
