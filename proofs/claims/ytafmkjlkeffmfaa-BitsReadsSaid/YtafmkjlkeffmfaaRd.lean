import Derived.Test.YtafmkjlkeffmfaaCode
namespace Go.Proofs.Ytafmkjlkeffmfaa
open Go.RowKit

/-! ### The program's Reader: Align, Bytes -/
theorem RD.move {w : World} {g k : Nat} {b : List UInt8} {A : Option Addr} {c : Nat} (h : RD w g b k A c) (hne : A.map (·.block) ≠ some g) (p : Nat) : RD (w.setCell ⟨g, 1, none⟩ (.int .i64 (p : Int))) g b p A c :=
  ⟨by simpa using h.blk.set_ 1 (.int .i64 (p : Int)), h.arr.upd (upd_set w ⟨g, 1, none⟩ _) (fun k' hk' e => hne (by rw [hk']; exact congrArg some e))⟩

def AlignO (w0 w : World) (g : Nat) (b : List UInt8) (p : Nat) (A : Option Addr) (c : Nat) (e : Ending) (w' : World) : Prop :=
  e = .returned (.tuple #[]) ∧ ORd w0 w' g b p A c ∧ Upd (fun i => i = g) w w'
theorem ORd.move {w0 w : World} {g k : Nat} {b : List UInt8} {A : Option Addr} {c : Nat} (h : ORd w0 w g b k A c) (p : Nat) : ORd w0 (w.setCell ⟨g, 1, none⟩ (.int .i64 (p : Int))) g b p A c :=
  ⟨h.rd.move h.hne p, h.fr.next (upd_set w ⟨g, 1, none⟩ _) (fun i hi => by simp only at hi; rw [hi]; exact h.hg), h.hg, h.ha, h.hne⟩

theorem align_o {w0 w : World} {g k : Nat} {b : List UInt8} {A : Option Addr} {c : Nat} (h : ORd w0 w g b k A c) (hk : k ≤ 1125899906842624) :
    Calls Try.prog 17 #[.pointer (some ⟨g, 0, none⟩)] w (AlignO w0 w g b ((k + 7) / 8 * 8) A c) := by
  have c1 := h.rd.blk.cell 1
  have f1 := h.rd.blk.frozen 1
  simp only [List.getElem?_toArray, List.getElem?_cons_zero, List.getElem?_cons_succ] at c1
  have H := Lib.hid h
  clear h
  go_enter Try.func17, Try.ntmps17
  go_wp2
  go_end0
  have h1 := H.out.move ((k + 7) / 8 * 8)
  rw [show (((k + 7) / 8 * 8 : Nat) : Int) = ((k : Int) + 7) / 8 * 8 by omega] at h1
  exact ⟨rfl, h1, upd_set w ⟨g, 1, none⟩ _⟩

def RBytesNo (w0 w : World) (g : Nat) (b : List UInt8) (p : Nat) (A : Option Addr) (c : Nat) (e : Ending) (w' : World) : Prop :=
  e = .returned (.tuple #[.slice none 0 0, .bool false]) ∧ ORd w0 w' g b p A c ∧ Upd (fun i => i = g) w w'

set_option maxHeartbeats 400000 in
theorem rbytes_no {w0 w : World} {g k : Nat} {b : List UInt8} {A : Option Addr} {c : Nat} (h : ORd w0 w g b k A c) (n : Int) (hl : b.length ≤ 140737488355328) (hk : k ≤ 8 * b.length) (hn : n < 0 ∨ (b.length : Int) - ((k + 7) / 8 : Nat) < n) (hn1 : -9223372036854775808 ≤ n) (hn2 : n ≤ 9223372036854775807) :
    Calls Try.prog 15 #[.pointer (some ⟨g, 0, none⟩), .int .i64 n] w (RBytesNo w0 w g b ((k + 7) / 8 * 8) A c) := by
  have H := Lib.hid h
  clear h
  by_cases h1 : n < 0
  · go_enter Try.func15, Try.ntmps15
    go_wp2_with fail
    refine (align_o H.out (by omega)).mono ?_
    rintro e w1 ⟨rfl, h2, u2⟩
    have H2 := Lib.hid h2
    clear h2
    go_wp2_with fail
    go_quiet (fail)
    go_wp2_with fail
    go_ret2
    exact ⟨rfl, H2.out.fresh ((Upd.refl _).drewN _), u2.drewN _⟩
  · have d1 : decide (n < 0) = false := by simpa using h1
    have h3 : (b.length : Int) - ((k + 7) / 8 : Nat) < n := by omega
    go_enter Try.func15, Try.ntmps15
    go_wp2_with fail
    refine (align_o H.out (by omega)).mono ?_
    rintro e w1 ⟨rfl, h2, u2⟩
    have H2 := Lib.hid h2
    have c0 := h2.rd.blk.cell 0
    have c1 := h2.rd.blk.cell 1
    simp only [List.getElem?_toArray, List.getElem?_cons_zero, List.getElem?_cons_succ] at c0 c1
    obtain ⟨p, hp⟩ : ∃ p, (k + 7) / 8 = p := ⟨_, rfl⟩
    have hp8 : (k + 7) / 8 * 8 = 8 * p := by omega
    rw [hp8] at c1
    rw [hp] at h3
    clear h2
    have hpb : p ≤ b.length := by omega
    have s1 : wrap64 (p : Int) = (p : Int) := by unfold wrap64; omega
    have s2 : wrap64 ((b.length : Int) - (p : Int)) = (b.length : Int) - (p : Int) := by unfold wrap64; omega
    have HP := Lib.hid hp8
    clear hp8 hp
    go_wp2_with fail
    go_quiet (fail)
    go_wp2_with fail
    go_ret2
    exact ⟨rfl, H2.out.fresh ((Upd.refl _).drewN _), u2.drewN _⟩

def RBytesYes (w0 w : World) (g : Nat) (b : List UInt8) (p n : Nat) (A : Option Addr) (c : Nat) (e : Ending) (w' : World) : Prop :=
  ∃ A', e = .returned (.tuple #[.slice A' n n, .bool true]) ∧ Arr w' 5 A' n (bv ((b.drop p).take n)) ∧ (∀ k, A'.map (·.block) = some k → w.heap.size ≤ k) ∧ ORd w0 w' g b (8 * p + 8 * n) A c ∧ Upd (fun i => i = g) w w'

/-- s[lo:hi] of what lies there. -/
theorem Reads.sub {w : World} {S : Nat → Prop} {ad : Addr} {len : Nat} {xs : List Value} (h : Reads w S 1 (some ad) len xs) (lo n cap : Nat) (h1 : lo + n ≤ len) (h2 : len ≤ cap) :
    Reads w S 1 (some (if cap = lo then ad else ad.add lo)) n ((xs.drop lo).take n) := by
  have hc := (h.cut (k := lo) (cap := cap) (by omega) h2).upto (k := n) (by omega)
  rw [Nat.mul_one, Nat.mul_one] at hc
  by_cases e : cap = lo
  · rw [if_pos e] at hc ⊢; exact hc
  · rw [if_neg e] at hc ⊢; exact hc
/-- Where s[lo:] of a slice with capacity cap begins. -/
def cutA (cap lo : Nat) (ad : Addr) : Option Addr := if cap = lo then some ad else some (ad.add lo)
theorem Reads.sub' {w : World} {S : Nat → Prop} {ad : Addr} {len : Nat} {xs : List Value} (h : Reads w S 1 (some ad) len xs) (lo n cap : Nat) (h1 : lo + n ≤ len) (h2 : len ≤ cap) :
    Reads w S 1 (cutA cap lo ad) n ((xs.drop lo).take n) := by
  have h3 := h.sub lo n cap h1 h2
  have e : cutA cap lo ad = some (if cap = lo then ad else ad.add lo) := by unfold cutA; split <;> rfl
  rw [e]
  exact h3
theorem bv_sub (b : List UInt8) (p n : Nat) : ((bv b).drop p).take n = bv ((b.drop p).take n) := by simp [bv]

theorem rbytes_end {w0 w w1 w2 : World} {g p n nq : Nat} {b : List UInt8} {A A2 : Option Addr} {c d2 : Nat} (h : ORd w0 w1 g b (p * 8) A c) (u : Upd (fun i => i = g) w w1)
    (ho : w2.ownsRow 0 5 1 (.slice A2 n d2) n (bv ((b.drop p).take n))) (hg : (w1.drewN nq).drew.grownBy w2 (Value.slice none 0 0).ownBlock) (ha : (Value.slice A2 n d2).ownBlock = (Value.slice none 0 0).ownBlock ∨ (Value.slice A2 n d2).ownBlock = some (w1.drewN nq).drew.heap.size) :
    RBytesYes w0 w g b p n A c (.returned (.tuple #[.slice A2 n n, .bool true])) (w2.setCell ⟨g, 1, none⟩ (.int .i64 (8 * (p : Int) + 8 * (n : Int)))) := by
  have hu : Fresh w1 w2 := (((Upd.refl w1).drewN nq).drew).grown hg (fun i hi => by simp [Value.ownBlock] at hi)
  have hr := (h.fresh hu).move (8 * p + 8 * n)
  rw [show (((8 * p + 8 * n : Nat)) : Int) = 8 * (p : Int) + 8 * (n : Int) by omega] at hr
  have hnew : ∀ k, A2.map (·.block) = some k → w1.heap.size ≤ k := by
    intro k hk
    rcases ha with h | h <;> rw [ownBlock_map, hk] at h
    · simp [Value.ownBlock] at h
    · injection h with h; simp at h; omega
  have hg1 := h.rd.blk.lt
  refine ⟨A2, rfl, (Arr.of_own ho).upd (upd_set w2 ⟨g, 1, none⟩ _) (fun k hk e => ?_), fun k hk => Nat.le_trans u.size (hnew k hk), hr, ?_⟩
  · have := hnew k hk
    simp only at e
    omega
  · exact (u.trans hu (fun _ _ h => h.elim)).setCell (fun _ => rfl) _

set_option maxHeartbeats 800000 in
theorem rbytes_yes {w0 w : World} {g k : Nat} {b : List UInt8} {A : Option Addr} {c : Nat} (h : ORd w0 w g b k A c) (n : Nat) (hl : b.length ≤ 140737488355328) (hc : b.length ≤ c) (hcm : c ≤ 9223372036854775807) (hnil : A = none → c = 0) (hk : k ≤ 8 * b.length) (hn : (k + 7) / 8 + n ≤ b.length) :
    Calls Try.prog 15 #[.pointer (some ⟨g, 0, none⟩), .int .i64 n] w (RBytesYes w0 w g b ((k + 7) / 8) n A c) := by
  obtain ⟨i0, hi0, hz0, hz1, hz2⟩ := info_parts Try.info5
  have H := Lib.hid h
  clear h
  have d1 : decide ((n : Int) < 0) = false := by simp
  go_enter Try.func15, Try.ntmps15
  go_wp2_with fail
  refine (align_o H.out (by omega)).mono ?_
  rintro e w1 ⟨rfl, h2, u2⟩
  have H2 := Lib.hid h2
  have c0 := h2.rd.blk.cell 0
  have c1 := h2.rd.blk.cell 1
  have f1 := h2.rd.blk.frozen 1
  simp only [List.getElem?_toArray, List.getElem?_cons_zero, List.getElem?_cons_succ] at c0 c1
  generalize hp : (k + 7) / 8 = p at hn h2 H2 c1 ⊢
  have HPk := Lib.hid hp
  clear h2 hp
  have e8 : p * 8 = 8 * p := by omega
  rw [e8] at c1
  have s1 : wrap64 (p : Int) = (p : Int) := by unfold wrap64; omega
  have s2 : wrap64 ((b.length : Int) - (p : Int)) = (b.length : Int) - (p : Int) := by unfold wrap64; omega
  have s3 : wrap64 ((p : Int) + (n : Int)) = (p : Int) + (n : Int) := by unfold wrap64; omega
  have x2 : decide ((b.length : Int) - (p : Int) < n) = false := by simp; omega
  have E8 := Lib.hid e8
  clear e8
  rcases A with _ | ad
  · have hb0 : b = [] := List.eq_nil_of_length_eq_zero (by
      rcases Nat.eq_zero_or_pos b.length with h0 | h0
      · exact h0
      · obtain ⟨_, _, hA, _⟩ := H2.out.rd.arr.2 h0
        cases hA)
    obtain rfl := hnil rfl
    subst hb0
    have hp0 : p = 0 := by simp at hn; omega
    have hn0 : n = 0 := by simp at hn; omega
    subst hp0
    subst hn0
    clear hnil
    have hab := H2.out.rd.blk.lt
    simp at x2
    go_wp2_with fail
    go_quiet (fail)
    go_wp2_with fail
    have z1 : IntKind.i64.wrap (0 : Int) = 0 := by decide
    go_region_held3 (fun w' => w'.cell? ⟨g, 0, none⟩ = some (.slice none 0 0) ∧ w'.cell? ⟨g, 1, none⟩ = some (.int .i64 0)) (first | exact ⟨c0, c1⟩ | exact ⟨k0, k1⟩ | go_keep)
      (first
        | (refine step_append_any _ rfl (.const (.slice none 0 0)) (.tmp 42) 24 rfl 5 i0 _ 1 1 Try.underlying24 hi0 hz0 hz1 hz2 rfl (by omega) (.slice none 0 0) 0 [] rfl
             ⟨by simp, .inl ⟨rfl, rfl⟩⟩ (fun _ => True) _ 0 _ (bv []) rfl Reads.none_ (bv_one _) (by unfold maxLen; omega) (by omega) ?_
           intro A2 d2 w2 hown2 hg2 hat2
           simp only [Nat.zero_add, List.nil_append] at hown2 hat2 ⊢
           have hd2 := (owns_cap hown2).1
           have Ho := Lib.hid hown2
           have Hg := Lib.hid hg2
           have Ha := Lib.hid hat2
           have hb2 := ((H2.out.rd.blk.drewN nq).drew).grown hg2 (by simp [Value.ownBlock])
           have k0 : w2.cell? ⟨g, 0, none⟩ = some (.slice none 0 0) := hb2.cell 0
           have k1 : w2.cell? ⟨g, 1, none⟩ = some (.int .i64 0) := hb2.cell 1
           have q1 := hb2.frozen 1
           clear hown2 hg2 hat2 hb2))
    go_wp2_with fail
    go_ret2
    rw [HPk.out]
    exact rbytes_end H2.out u2 Ho.out Hg.out Ha.out
  · have hab := H2.out.rd.blk.lt
    clear hnil
    have hif : (if c = p then some ad else some (ad.add p)) = cutA c p ad := rfl
    have t1 : IntKind.i64.wrap (p : Int) = (p : Int) := by rw [IntKind.wrap_i64]; omega
    have t3 : IntKind.i64.wrap ((p : Int) + (n : Int)) = (p : Int) + (n : Int) := by rw [IntKind.wrap_i64]; omega
    have b1 : (0 : Int) ≤ (p : Int) + n := by omega
    have b2 : (p : Int) + n ≤ (c : Int) := by omega
    have b3 : ((p : Int) + n).toNat = p + n := by omega
    have b4 : (p : Int) ≤ max ((p : Int) + n) 0 := by omega
    have b5 : p + n - p = n := by omega
    go_wp2_with fail
    go_quiet (fail)
    go_wp2_with fail
    go_region_held3 (fun w' => w'.cell? ⟨g, 0, none⟩ = some (.slice (some ad) b.length c) ∧ w'.cell? ⟨g, 1, none⟩ = some (.int .i64 ((8 * p : Nat) : Int))) (first | exact ⟨c0, c1⟩ | exact ⟨k0, k1⟩ | go_keep)
      (first
        | (refine step_append_any _ rfl (.const (.slice none 0 0)) (.tmp 42) 24 rfl 5 i0 _ 1 1 Try.underlying24 hi0 hz0 hz1 hz2 rfl (by omega) (.slice none 0 0) 0 [] rfl
             ⟨by simp, .inl ⟨rfl, rfl⟩⟩ _ _ n _ (bv ((b.drop p).take n)) rfl (by rw [← bv_sub]; exact ((H2.out.rd.arr.reads.sub' p n c hn hc).drewN _).drew) (bv_one _) (by unfold maxLen; omega) (by omega) ?_
           intro A2 d2 w2 hown2 hg2 hat2
           simp only [Nat.zero_add, List.nil_append] at hown2 hat2 ⊢
           have hd2 := (owns_cap hown2).1
           have Ho := Lib.hid hown2
           have Hg := Lib.hid hg2
           have Ha := Lib.hid hat2
           have hb2 := ((H2.out.rd.blk.drewN nq).drew).grown hg2 (by simp [Value.ownBlock])
           have k0 : w2.cell? ⟨g, 0, none⟩ = some (.slice (some ad) b.length c) := hb2.cell 0
           have k1 : w2.cell? ⟨g, 1, none⟩ = some (.int .i64 ((8 * p : Nat) : Int)) := by rw [← E8.out]; exact hb2.cell 1
           have q1 := hb2.frozen 1
           clear hown2 hg2 hat2 hb2))
    go_wp2_with fail
    go_ret2
    rw [HPk.out]
    exact rbytes_end H2.out u2 Ho.out Hg.out Ha.out
end Go.Proofs.Ytafmkjlkeffmfaa
