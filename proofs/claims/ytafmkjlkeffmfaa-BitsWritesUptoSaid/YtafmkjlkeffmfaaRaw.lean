import Derived.Test.YtafmkjlkeffmfaaWr
namespace Go.Proofs.Ytafmkjlkeffmfaa
open Go.RowKit

theorem leb_num (l : List UInt8) : leb l.length (num l) = l := by
  induction l with
  | nil => rfl
  | cons b l ih =>
    have hb := b.toNat_lt
    have e1 : (b.toNat + 256 * num l) % 256 = b.toNat := by omega
    have e2 : (b.toNat + 256 * num l) / 256 = num l := by omega
    simp only [num, List.length_cons, leb, e1, e2, ih]
    simp
theorem leb_app (a V : Nat) (d : List UInt8) : leb (a + d.length) (V % 256 ^ a + num d * 256 ^ a) = leb a (V % 256 ^ a) ++ d := by
  have h : V % 256 ^ a < 256 ^ a := Nat.mod_lt _ (Nat.pow_pos (by decide))
  rw [leb_add, leb_mod _ _ _ _ (Nat.le_refl _), Nat.add_mul_div_right _ _ (Nat.pow_pos (by decide)), Nat.div_eq_of_lt h, Nat.zero_add, leb_num]
theorem app_bytes (L V : Nat) (h8 : L % 8 = 0) (h : V < 2 ^ L) (d : List UInt8) : leb (L / 8 + d.length) (V + num d * 2 ^ L) = leb (L / 8) V ++ d ∧ V + num d * 2 ^ L < 2 ^ (L + 8 * d.length) := by
  have e : (2 : Nat) ^ L = 256 ^ (L / 8) := by rw [show (256 : Nat) = 2 ^ 8 from rfl, ← Nat.pow_mul]; congr 1; omega
  rw [e] at h ⊢
  have h1 := leb_app (L / 8) V d
  rw [Nat.mod_eq_of_lt h] at h1
  refine ⟨h1, ?_⟩
  have h2 := num_lt d
  have e2 : (2 : Nat) ^ (L + 8 * d.length) = 256 ^ (L / 8) * 256 ^ d.length := by rw [Nat.pow_add, e, show (2 : Nat) ^ (8 * d.length) = 256 ^ d.length by rw [show (256 : Nat) = 2 ^ 8 from rfl, ← Nat.pow_mul]]
  rw [e2, Nat.mul_comm (256 ^ (L / 8))]
  have h3 : (num d + 1) * 256 ^ (L / 8) ≤ 256 ^ d.length * 256 ^ (L / 8) := Nat.mul_le_mul_right _ h2
  rw [Nat.add_mul] at h3
  omega

/-! ### The program's Align, Raw -/
def up8 (L : Nat) : Nat := (L + 7) / 8 * 8
def WO (w0 w : World) (g L V : Nat) (A : Option Addr) (e : Ending) (w' : World) : Prop :=
  e = .returned (.tuple #[]) ∧ ∃ A' c', OW w0 w' g L V A' c' ∧ Upd (fun i => i = g ∨ A.map (·.block) = some i) w w' ∧ (∀ k, A'.map (·.block) = some k → A.map (·.block) = some k ∨ w.heap.size ≤ k)
set_option maxHeartbeats 800000 in
theorem align_w {w0 w : World} {g L V : Nat} {A : Option Addr} {c : Nat} (h : OW w0 w g L V A c) (hl : L ≤ 562949953421000) :
    Calls Try.prog 23 #[.pointer (some ⟨g, 0, none⟩)] w (WO w0 w g (up8 L) V A) := by
  have c2 := h.wr.blk.cell 2
  simp only [List.getElem?_toArray, List.getElem?_cons_zero, List.getElem?_cons_succ] at c2
  have H := Lib.hid h
  clear h
  by_cases h8 : L % 8 = 0
  · have e : up8 L = L := by unfold up8; omega
    rw [h8] at c2
    have HE := Lib.hid e
    clear e h8
    go_enter Try.func23, Try.ntmps23
    go_wp2_with fail
    go_end0
    rw [HE.out]
    exact ⟨rfl, A, c, H.out, Upd.refl _, fun k hk => .inl hk⟩
  · have e : up8 L = L + (8 - L % 8) := by unfold up8; omega
    have HE := Lib.hid e
    obtain ⟨r, hr⟩ : ∃ r, L % 8 = r := ⟨_, rfl⟩
    have hput := put_om H.out 0 (((8 - r : Nat) : Int)) (by omega) (by omega)
    rw [clamp_of (8 - r) (by omega)] at hput
    have HP := Lib.hid hput
    rw [hr] at c2 h8 HE
    have hr8 : r < 8 := by omega
    have b1 : 0 < r := by omega
    have h8r : 8 - (r : Int) = ((8 - r : Nat) : Int) := by omega
    have H8 := Lib.hid h8r
    clear e hput hr h8 h8r
    go_enter Try.func23, Try.ntmps23
    go_wp2_with fail
    rw [H8.out]
    refine HP.out.mono ?_
    rintro e w1 ⟨rfl, A', c', ho, hu, hs⟩
    have H1 := Lib.hid (show ∃ A' c', OW w0 w1 g (up8 L) V A' c' ∧ Upd (fun i => i = g ∨ A.map (·.block) = some i) w w1 ∧ (∀ k, A'.map (·.block) = some k → A.map (·.block) = some k ∨ w.heap.size ≤ k) from ⟨A', c', by rw [HE.out]; simpa using ho, hu, hs⟩)
    clear ho hu hs
    go_wp2_with fail
    go_end0
    exact ⟨rfl, H1.out⟩

theorem raw_end {w0 w1 w2 : World} {g L V n : Nat} {A A2 : Option Addr} {c c2 : Nat} {d : List UInt8} (H : OW w0 w1 g L V A c) (h8 : L % 8 = 0) (hn : n = L / 8 + d.length) (ho : w2.ownsRow 0 5 1 (.slice A2 n c2) n (bv (leb (L / 8) V) ++ bv d)) (hg : w1.grownBy w2 (Value.slice A (L / 8) c).ownBlock)
    (hat : (Value.slice A2 n c2).ownBlock = (Value.slice A (L / 8) c).ownBlock ∨ (Value.slice A2 n c2).ownBlock = some w1.heap.size) :
    OW w0 (w2.setCell ⟨g, 0, none⟩ (.slice A2 n c2)) g (L + 8 * d.length) (V + num d * 2 ^ L) A2 c2 ∧ Upd (fun i => i = g ∨ A.map (·.block) = some i) w1 (w2.setCell ⟨g, 0, none⟩ (.slice A2 n c2)) ∧ (∀ k, A2.map (·.block) = some k → A.map (·.block) = some k ∨ w1.heap.size ≤ k) := by
  subst hn
  obtain ⟨e1, e2⟩ := app_bytes L V h8 H.wr.lt d
  have hneA : A.map (·.block) ≠ some g := by rw [← ownBlock_map]; exact own_blk_ne H.wr.own H.wr.blk (by decide)
  have hu : Upd (fun i => A.map (·.block) = some i) w1 w2 := (Upd.refl w1).grown hg (fun i hi _ => by rw [ownBlock_map] at hi; exact hi)
  have hb2 : Blk w2 g 27 _ := H.wr.blk.upd hu (fun e => hneA e)
  have hu2 : Upd (fun i => i = g) w2 (w2.setCell ⟨g, 0, none⟩ (.slice A2 (L / 8 + d.length) c2)) := upd_set w2 ⟨g, 0, none⟩ _
  have hall : Upd (fun i => i = g ∨ A.map (·.block) = some i) w1 (w2.setCell ⟨g, 0, none⟩ (.slice A2 (L / 8 + d.length) c2)) :=
    (hu.mono (G := fun i => i = g ∨ A.map (·.block) = some i) (fun _ h => .inr h)).trans (hu2.mono (G := fun i => i = g ∨ A.map (·.block) = some i) (fun _ h => .inl h)) (fun _ _ h => h)
  have hs : ∀ k, A2.map (·.block) = some k → A.map (·.block) = some k ∨ w1.heap.size ≤ k := by
    intro k hk
    rw [ownBlock_map, ownBlock_map, hk] at hat
    rcases hat with e | e
    · exact .inl e.symm
    · injection e with e
      exact .inr (by omega)
  have hL : (L + 8 * d.length) / 8 = L / 8 + d.length := by omega
  have p8 : ∀ n, (256 : Nat) ^ n = 2 ^ (8 * n) := fun n => by rw [show (256 : Nat) = 2 ^ 8 from rfl, ← Nat.pow_mul]
  have z1 : V / 256 ^ (L / 8) = 0 := Nat.div_eq_of_lt (by rw [p8, show 8 * (L / 8) = L by omega]; exact H.wr.lt)
  have z2 : (V + num d * 2 ^ L) / 256 ^ (L / 8 + d.length) = 0 := Nat.div_eq_of_lt (by rw [p8, show 8 * (L / 8 + d.length) = L + 8 * d.length by omega]; exact e2)
  refine ⟨⟨⟨?_, ?_, e2⟩, H.fr.next hall ?_, H.hg, ?_⟩, hall, hs⟩
  · rw [hL, z2, show (L + 8 * d.length) % 8 = L % 8 by omega]
    rw [z1] at hb2
    simpa using hb2.set_ 0 (.slice A2 (L / 8 + d.length) c2)
  · rw [hL, e1, bv_append]
    exact owns_upd ho hu2 (fun k hk e => own_blk_ne ho hb2 (by decide) (by rw [hk, e]))
  · rintro i (rfl | hi)
    · exact H.hg
    · exact H.ha i hi
  · intro k hk
    rcases hs k hk with e | e
    · exact H.ha k e
    · have := H.fr.size; omega
set_option maxHeartbeats 1600000 in
theorem raw_w {w0 w : World} {g L V : Nat} {A : Option Addr} {c : Nat} (h : OW w0 w g L V A c) (hl : L ≤ 56294995342100) (D : Option Addr) (cd : Nat) (d : List UInt8) (hr : Reads w0 (fun _ => True) 1 D d.length (bv d)) (hd : d.length ≤ 1099511627776) :
    Calls Try.prog 21 #[.pointer (some ⟨g, 0, none⟩), .slice D d.length cd] w (WO w0 w g (up8 L + 8 * d.length) (V + num d * 2 ^ up8 L) A) := by
  obtain ⟨i0, hi0, hz0, hz1, hz2⟩ := info_parts Try.info5
  have HAl := Lib.hid (align_w h (by omega))
  have HR := Lib.hid hr
  have h8 : up8 L % 8 = 0 := by unfold up8; omega
  have hu8 : up8 L ≤ 56294995342108 := by unfold up8; omega
  generalize up8 L = M at HAl h8 hu8
  have H8 := Lib.hid h8
  clear h hr h8
  go_enter Try.func21, Try.ntmps21
  go_wp2_with fail
  refine HAl.out.mono ?_
  rintro e w1 ⟨rfl, A1, c1, ho, hu, hs⟩
  have HO := Lib.hid ho
  have HU := Lib.hid hu
  have HS := Lib.hid hs
  have c0 := ho.wr.blk.cell 0
  have hown := ho.wr.own
  simp only [List.getElem?_toArray, List.getElem?_cons_zero, List.getElem?_cons_succ] at c0
  clear ho hu hs
  obtain ⟨q, hq⟩ : ∃ q, M / 8 = q := ⟨_, rfl⟩
  have HQ := Lib.hid hq
  rw [hq] at c0 hown
  have hqb : q ≤ 70368744177664 := by omega
  have HW := Lib.hid hown
  clear hq hown
  go_wp2_with (first
    | (at_builtin
       refine wpList_append_any _ rfl (.tmp 10) (.tmp 11) 24 rfl 5 i0 _ 1 1 Try.underlying24 hi0 hz0 hz1 hz2 rfl (by omega) (.slice A1 q c1) q (bv (leb q V)) rfl HW.out (fun _ => True) D d.length cd (bv d) rfl (HR.out.upd HO.out.fr (fun _ _ h => h)) (bv_one _) (by unfold maxLen; omega) (by omega) ?_
       intro A2 d2 w2 hown2 hg2 hat2
       have HE := Lib.hid (raw_end (n := q + d.length) HO.out H8.out (by rw [HQ.out]) (by rw [HQ.out]; exact hown2) (by rw [HQ.out]; exact hg2) (by rw [HQ.out]; exact hat2))
       have hb2 := HO.out.wr.blk.grown hg2 (fun e => own_blk_ne HO.out.wr.own HO.out.wr.blk (by decide) (by rw [HQ.out]; exact e.symm))
       have k0 := hb2.cell 0
       have q0 := hb2.frozen 0
       simp only [List.getElem?_toArray, List.getElem?_cons_zero, List.getElem?_cons_succ] at k0
       clear hown2 hg2 hat2 hb2))
  go_end0
  obtain ⟨f1, f2, f3⟩ := HE.out
  refine ⟨rfl, A2, d2, f1, HU.out.trans f2 ?_, ?_⟩
  · rintro k hk (rfl | e)
    · exact .inl rfl
    · rcases HS.out k e with h | h
      · exact .inr h
      · omega
  · intro k hk
    rcases f3 k hk with e | e
    · exact HS.out k e
    · exact .inr (Nat.le_trans HU.out.size e)

/-! ### The document's Raw -/
theorem rraw_end {w0 w1 w2 : World} {g L V n : Nat} {A A2 : Option Addr} {c c2 : Nat} {d : List UInt8} (H : RW w0 w1 g L V A c) (hw : w0.heap.size ≤ w1.heap.size) (h8 : L % 8 = 0) (hn : n = (L + 7) / 8 + d.length) (ho : w2.ownsRow 0 5 1 (.slice A2 n c2) n (bv (leb ((L + 7) / 8) V) ++ bv d)) (hg : w1.grownBy w2 (Value.slice A ((L + 7) / 8) c).ownBlock)
    (hat : (Value.slice A2 n c2).ownBlock = (Value.slice A ((L + 7) / 8) c).ownBlock ∨ (Value.slice A2 n c2).ownBlock = some w1.heap.size) :
    RW w0 ((w2.setCell ⟨g, 0, none⟩ (.slice A2 n c2)).setCell ⟨g, 1, none⟩ (.int .i64 (8 * (n : Int)))) g (L + 8 * d.length) (V + num d * 2 ^ L) A2 c2 ∧ Upd (fun i => i = g ∨ A.map (·.block) = some i) w1 ((w2.setCell ⟨g, 0, none⟩ (.slice A2 n c2)).setCell ⟨g, 1, none⟩ (.int .i64 (8 * (n : Int)))) ∧ (∀ k, A2.map (·.block) = some k → A.map (·.block) = some k ∨ w1.heap.size ≤ k) := by
  subst hn
  obtain ⟨e1, e2⟩ := app_bytes L V h8 H.lt d
  have hL7 : (L + 7) / 8 = L / 8 := by omega
  have hneA : A.map (·.block) ≠ some g := by rw [← ownBlock_map]; exact own_blk_ne H.own H.blk (by decide)
  have hu : Upd (fun i => A.map (·.block) = some i) w1 w2 := (Upd.refl w1).grown hg (fun i hi _ => by rw [ownBlock_map] at hi; exact hi)
  have hb2 : Blk w2 g 51 _ := H.blk.upd hu (fun e => hneA e)
  have hs : ∀ k, A2.map (·.block) = some k → A.map (·.block) = some k ∨ w1.heap.size ≤ k := by
    intro k hk
    rw [ownBlock_map, ownBlock_map, hk] at hat
    rcases hat with e | e
    · exact .inl e.symm
    · injection e with e
      exact .inr (by omega)
  rw [hL7] at ho hb2 ⊢
  have hu2 : Upd (fun i => i = g) w2 ((w2.setCell ⟨g, 0, none⟩ (.slice A2 (L / 8 + d.length) c2)).setCell ⟨g, 1, none⟩ (.int .i64 (8 * ((L / 8 + d.length : Nat) : Int)))) :=
    ((Upd.refl w2).setCell (F := fun i => i = g) (fun _ => rfl) _).setCell (fun _ => rfl) _
  have hb3 := (hb2.set_ 0 (.slice A2 (L / 8 + d.length) c2)).set_ 1 (.int .i64 (8 * ((L / 8 + d.length : Nat) : Int)))
  have hL : (L + 8 * d.length + 7) / 8 = L / 8 + d.length := by omega
  refine ⟨⟨?_, ?_, e2, H.hg, ?_⟩, (hu.mono (G := fun i => i = g ∨ A.map (·.block) = some i) (fun _ h => .inr h)).trans (hu2.mono (G := fun i => i = g ∨ A.map (·.block) = some i) (fun _ h => .inl h)) (fun _ _ h => h), hs⟩
  · rw [hL, show ((L + 8 * d.length : Nat) : Int) = 8 * ((L / 8 + d.length : Nat) : Int) by omega]
    simpa using hb3
  · rw [hL, e1, bv_append]
    exact owns_upd ho hu2 (fun k hk e => own_blk_ne ho hb2 (by decide) (by rw [hk, e]))
  · intro k hk
    rcases hs k hk with e | e
    · exact H.ha k e
    · omega
set_option maxHeartbeats 1600000 in
theorem rraw_w {w0 w : World} {g L V : Nat} {A : Option Addr} {c : Nat} (h : RW w0 w g L V A c) (hw : w0.heap.size ≤ w.heap.size) (hl : L ≤ 56294995342100) (D : Option Addr) (cd : Nat) (d : List UInt8) (hr : ∀ w1, Upd (fun i => i = g) w w1 → Reads w1 (fun _ => True) 1 D d.length (bv d)) (hd : d.length ≤ 1099511627776) :
    Calls Try.prog 22 #[.pointer (some ⟨g, 0, none⟩), .slice D d.length cd] w (ROneO w0 w g (up8 L + 8 * d.length) (V + num d * 2 ^ up8 L) A) := by
  obtain ⟨i0, hi0, hz0, hz1, hz2⟩ := info_parts Try.info5
  have hal := ralign_w h (by omega)
  rw [show (L + 7) / 8 * 8 = up8 L from rfl] at hal
  have HAl := Lib.hid hal
  have HR := Lib.hid hr
  have h8 : up8 L % 8 = 0 := by unfold up8; omega
  have hu8 : up8 L ≤ 56294995342108 := by unfold up8; omega
  clear hal
  generalize up8 L = M at HAl h8 hu8
  have H8 := Lib.hid h8
  clear h hr h8
  go_enter Try.func22, Try.ntmps22
  go_wp2_with fail
  refine HAl.out.mono ?_
  rintro e w1 ⟨rfl, ho, hu⟩
  have HO := Lib.hid ho
  have HU := Lib.hid hu
  have HD := Lib.hid (HR.out w1 hu)
  have c0 := ho.blk.cell 0
  have hown := ho.own
  simp only [List.getElem?_toArray, List.getElem?_cons_zero, List.getElem?_cons_succ] at c0
  clear ho hu
  obtain ⟨q, hq⟩ : ∃ q, (M + 7) / 8 = q := ⟨_, rfl⟩
  have HQ := Lib.hid hq
  rw [hq] at c0 hown
  have hqb : q ≤ 7036874417766 := by omega
  have HW := Lib.hid hown
  clear hq hown
  go_wp2_with (first
    | (at_builtin
       refine wpList_append_any _ rfl (.tmp 10) (.tmp 11) 24 rfl 5 i0 _ 1 1 Try.underlying24 hi0 hz0 hz1 hz2 rfl (by omega) (.slice A q c) q (bv (leb q V)) rfl HW.out (fun _ => True) D d.length cd (bv d) rfl HD.out (bv_one _) (by unfold maxLen; omega) (by omega) ?_
       intro A2 d2 w2 hown2 hg2 hat2
       have HE := Lib.hid (rraw_end (n := q + d.length) HO.out (Nat.le_trans hw HU.out.size) H8.out (by rw [HQ.out]) (by rw [HQ.out]; exact hown2) (by rw [HQ.out]; exact hg2) (by rw [HQ.out]; exact hat2))
       have hb2 := HO.out.blk.grown hg2 (fun e => own_blk_ne HO.out.own HO.out.blk (by decide) (by rw [HQ.out]; exact e.symm))
       have k0 := hb2.cell 0
       have k1 := hb2.cell 1
       have q0 := hb2.frozen 0
       have q1 := hb2.frozen 1
       simp only [List.getElem?_toArray, List.getElem?_cons_zero, List.getElem?_cons_succ] at k0 k1
       clear hown2 hg2 hat2 hb2))
  go_end0
  obtain ⟨f1, f2, f3⟩ := HE.out
  have e9 : 8 * ((q : Int) + (d.length : Int)) = 8 * ((q + d.length : Nat) : Int) := by omega
  rw [e9]
  refine ⟨rfl, A2, d2, f1, (HU.out.mono (G := fun i => i = g ∨ A.map (·.block) = some i) (fun _ h => .inl h)).trans f2 (fun _ _ h => h), ?_⟩
  intro k hk
  rcases f3 k hk with e | e
  · exact .inl e
  · exact .inr (Nat.le_trans HU.out.size e)
end Go.Proofs.Ytafmkjlkeffmfaa
