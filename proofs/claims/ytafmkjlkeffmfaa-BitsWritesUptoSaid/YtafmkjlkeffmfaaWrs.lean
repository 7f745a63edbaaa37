import Derived.Test.YtafmkjlkeffmfaaRaw
namespace Go.Proofs.Ytafmkjlkeffmfaa
open Go.RowKit

theorem Arr.upd2 {F : Nat → Prop} {w w' : World} {e : TypeId} {A : Option Addr} {n : Nat} {xs : List Value} (h : Arr w e A n xs) (hu : Upd F w w') (hd : 0 < n → ∀ k, A.map (·.block) = some k → ¬ F k) : Arr w' e A n xs := by
  refine ⟨h.1, fun hn => ?_⟩
  obtain ⟨g, cur, rfl, hb, hle, ht⟩ := h.2 hn
  exact ⟨g, cur, rfl, hb.upd hu (hd hn g rfl), hle, ht⟩
theorem Arr.set_ {w : World} {e : TypeId} {n : Nat} {ad : Addr} {xs : List Value} (h : Arr w e (some ad) n xs) {j : Nat} (hj : j < n) (u : Value) : Arr (w.setCell (ad.add j) u) e (some ad) n (xs.set j u) := by
  refine ⟨by simpa using h.1, fun hn => ?_⟩
  obtain ⟨g, cur, hA, hb, hle, ht⟩ := h.2 hn
  injection hA with hA
  subst hA
  refine ⟨g, cur.setIfInBounds j u, rfl, ?_, by simpa using hle, ?_⟩
  · rw [Addr.add_lit, Nat.zero_add]
    exact hb.set_ j u
  · rw [Array.toList_setIfInBounds, ← ht, List.take_set]
theorem bv_ints (l : List UInt8) : ∀ u ∈ bv l, ∃ x : Int, u = .int .u8 x := by
  intro u hu
  obtain ⟨x, _, rfl⟩ := List.mem_map.1 hu
  exact ⟨_, rfl⟩
theorem ints_set {xs : List Value} (h : ∀ u ∈ xs, ∃ x : Int, u = .int .u8 x) (j : Nat) (y : Int) : ∀ u ∈ xs.set j (.int .u8 y), ∃ x : Int, u = .int .u8 x := by
  intro u hu
  rcases List.mem_or_eq_of_mem_set hu with h1 | h1
  · exact h u h1
  · exact ⟨y, h1⟩
/-- A row of bytes of the call's own that is being written over. -/
structure Scr (w0 w : World) (A : Option Addr) (n : Nat) : Prop where
  arr : ∃ xs : List Value, Arr w 5 A n xs ∧ ∀ u ∈ xs, ∃ x : Int, u = .int .u8 x
  upd : Upd (fun i => 0 < n ∧ A.map (·.block) = some i) w0 w
theorem Scr.start {w : World} {A : Option Addr} {n : Nat} {l : List UInt8} (h : Arr w 5 A n (bv l)) : Scr w w A n := ⟨⟨_, h, bv_ints l⟩, Upd.refl w⟩
theorem Scr.at_ {w0 w : World} {A : Option Addr} {n j : Nat} (h : Scr w0 w A n) (hj : j < n) : ∃ ad x, A = some ad ∧ w.cell? (ad.add j) = some (.int .u8 x) ∧ w.frozen? (ad.add j) = false ∧ ∀ y : Int, Scr w0 (w.setCell (ad.add j) (.int .u8 y)) A n := by
  obtain ⟨xs, ha, hi⟩ := h.arr
  obtain ⟨ad, u, hA, _, hlt, hu, hcell⟩ := ha.reads.at_ (k := j) hj
  subst hA
  obtain ⟨x, rfl⟩ := hi u (List.mem_of_getElem? hu)
  refine ⟨ad, x, rfl, hcell, ha.frozen rfl hj, fun y => ⟨⟨_, ha.set_ hj _, ints_set hi j y⟩, h.upd.setCell (fun _ => ⟨by omega, by rw [block_of_add]; rfl⟩) _⟩⟩

/-- Both writers, apart from each other. -/
structure BW (w0 w : World) (g1 g2 L V : Nat) (A1 : Option Addr) (c1 : Nat) (A2 : Option Addr) (c2 : Nat) : Prop where
  a : OW w0 w g1 L V A1 c1
  b : RW w0 w g2 L V A2 c2
  dis : ∀ k, A1.map (·.block) = some k → A2.map (·.block) ≠ some k
section
variable {w0 w w' : World} {g1 g2 L V L' V' : Nat} {A1 A1' A2 A2' : Option Addr} {c1 c1' c2 c2' : Nat}
theorem BW.fresh (h : BW w0 w g1 g2 L V A1 c1 A2 c2) (hu : Fresh w w') : BW w0 w' g1 g2 L V A1 c1 A2 c2 := ⟨h.a.fresh hu, h.b.fresh hu, h.dis⟩
theorem RW.lt_a {k : Nat} (h : RW w0 w g2 L V A2 c2) (hk : A2.map (·.block) = some k) : k < w.heap.size := owns_lt h.own (by rw [ownBlock_map]; exact hk)
theorem BW.left (h : BW w0 w g1 g2 L V A1 c1 A2 c2) (hu : Upd (fun i => i = g1 ∨ A1.map (·.block) = some i) w w') (hs : ∀ k, A1'.map (·.block) = some k → A1.map (·.block) = some k ∨ w.heap.size ≤ k) :
    RW w0 w' g2 L V A2 c2 ∧ ∀ k, A1'.map (·.block) = some k → A2.map (·.block) ≠ some k := by
  refine ⟨h.b.keep hu ?_ ?_, ?_⟩
  · rintro (e | e)
    · exact h.b.blk.ne_ h.a.wr.blk (by decide) e
    · exact own_blk_ne h.a.wr.own h.b.blk (by decide) (by rw [ownBlock_map]; exact e)
  · rintro k hk (rfl | e)
    · exact own_blk_ne h.b.own h.a.wr.blk (by decide) (by rw [ownBlock_map]; exact hk)
    · exact h.dis k e hk
  · intro k hk h2
    rcases hs k hk with e | e
    · exact h.dis k e h2
    · have := h.b.lt_a h2
      omega
theorem BW.right (ho : OW w0 w g1 L' V' A1' c1') (h : RW w0 w g2 L V A2 c2) (hd : ∀ k, A1'.map (·.block) = some k → A2.map (·.block) ≠ some k) (hr : RW w0 w' g2 L' V' A2' c2') (hu : Upd (fun i => i = g2 ∨ A2.map (·.block) = some i) w w') (hs : ∀ k, A2'.map (·.block) = some k → A2.map (·.block) = some k ∨ w.heap.size ≤ k) :
    BW w0 w' g1 g2 L' V' A1' c1' A2' c2' := by
  refine ⟨ho.keep hu ?_ ?_ ?_, hr, ?_⟩
  · rintro i (rfl | hi)
    · exact h.hg
    · exact h.ha i hi
  · rintro (e | e)
    · exact ho.wr.blk.ne_ h.blk (by decide) e
    · exact own_blk_ne h.own ho.wr.blk (by decide) (by rw [ownBlock_map]; exact e)
  · rintro k hk (rfl | e)
    · exact own_blk_ne ho.wr.own h.blk (by decide) (by rw [ownBlock_map]; exact hk)
    · exact hd k hk e
  · intro k hk h2
    rcases hs k h2 with e | e
    · exact hd k hk e
    · have := ho.wr.lt_a hk
      omega
/-- Behind what was written over bytes of the call's own. -/
theorem BW.scr {w4 w5 wx : World} {A3 : Option Addr} {n : Nat} (h4 : BW w0 w4 g1 g2 L V A1 c1 A2 c2) (hf : Fresh w4 w5) (hab : ∀ k, A3.map (·.block) = some k → w4.heap.size ≤ k) (hs : Scr w5 wx A3 n) : BW w0 wx g1 g2 L V A1 c1 A2 c2 := by
  have h5 := h4.fresh hf
  have hlt : ∀ k, k < w4.heap.size → ¬ (0 < n ∧ A3.map (·.block) = some k) := fun k hk h => by have := hab k h.2; omega
  have hs4 := h4.a.fr.size
  refine ⟨h5.a.keep hs.upd ?_ (hlt _ h4.a.wr.blk.lt) (fun k hk => hlt k (h4.a.wr.lt_a hk)), h5.b.keep hs.upd (hlt _ h4.b.blk.lt) (fun k hk => hlt k (h4.b.lt_a hk)), h4.dis⟩
  rintro i ⟨_, h⟩
  have := hab i h
  omega
end
/-- Both writers hold at most B bits. -/
def WX (w0 w : World) (g1 g2 B : Nat) : Prop := ∃ L V A1 c1 A2 c2, L ≤ B ∧ BW w0 w g1 g2 L V A1 c1 A2 c2

/-! ### The calls that came in -/
structure SOp where
  kd : Int
  nn : Int
  v : Nat
  da : Option Addr
  dc : Nat
  b : List UInt8
theorem add_far (a : Addr) (k j : Nat) (hj : 0 < j) : a.add (k + j) = ⟨(a.add k).block, (a.add k).off + j, none⟩ := by
  rw [← add_of_add]
  generalize a.add k = b
  unfold Addr.add
  rw [if_neg (by omega)]
structure WOps (w : World) (As : Option Addr) (m : Nat) (f : Nat → SOp) : Prop where
  at_ : 0 < m → ∃ sa, As = some sa ∧ sa.block < w.heap.size ∧ ∀ i, i < m → w.cell? (sa.add (i * 4)) = some (.int .i64 (f i).kd) ∧ w.cell? (sa.add (i * 4 + 1)) = some (.int .i64 (f i).nn) ∧ w.cell? (sa.add (i * 4 + 2)) = some (.int .u32 ((f i).v : Int)) ∧ w.cell? (sa.add (i * 4 + 3)) = some (.slice (f i).da (f i).b.length (f i).dc)
  dat : ∀ i, Reads w (fun _ => True) 1 (f i).da (f i).b.length (bv (f i).b) ∧ (f i).b.length ≤ 1048576 ∧ (f i).v < 4294967296 ∧ -9223372036854775808 ≤ (f i).nn ∧ (f i).nn ≤ 9223372036854775807
theorem WOps.fresh {w w' : World} {As : Option Addr} {m : Nat} {f : Nat → SOp} (h : WOps w As m f) (hu : Fresh w w') : WOps w' As m f := by
  refine ⟨fun hm => ?_, fun i => ⟨(h.dat i).1.upd hu (fun _ _ h => h), (h.dat i).2⟩⟩
  obtain ⟨sa, e, hb, hc⟩ := h.at_ hm
  have hk : ∀ j, w'.cell? (sa.add j) = w.cell? (sa.add j) := fun j => hu.cell (by rw [block_of_add]; exact hb) (fun h => h)
  refine ⟨sa, e, Nat.lt_of_lt_of_le hb hu.size, fun i hi => ?_⟩
  rw [hk, hk, hk, hk]
  exact hc i hi
theorem str_of {w : World} {A : Option Addr} {n c : Nat} {l : List UInt8} (h : Arr w 5 A n (bv l)) : (convert 24 9 (.slice A n c)).run Try.prog w = .ok (.string ⟨l.toArray⟩) w := by
  have hl : l.length = n := by have := h.1; simpa [bv] using this
  have h1 := run_string_of (P := Try.prog) (w := w) (S := fun k => A.map (·.block) = some k) (A := A) (c := c) (l := l) 24 9 5 Try.underlying24 Try.underlying5 Try.underlying9 (by rw [hl]; exact h.reads)
  rw [hl] at h1
  exact h1
theorem rw_str {w0 w : World} {g L V : Nat} {A : Option Addr} {c : Nat} (h : RW w0 w g L V A c) : (convert 24 9 (.slice A ((L + 7) / 8) c)).run Try.prog w = .ok (.string ⟨(leb ((L + 7) / 8) V).toArray⟩) w := str_of (Arr.of_own h.own)

/-- How many bits the first i calls can have written. -/
def Bd (f : Nat → SOp) : Nat → Nat
  | 0 => 0
  | i + 1 => Bd f i + 40 + 8 * (f i).b.length
theorem Bd_le (f : Nat → SOp) (h : ∀ i, (f i).b.length ≤ 1048576) (i : Nat) : Bd f i ≤ 8388648 * i := by
  induction i with
  | zero => simp [Bd]
  | succ i ih => have := h i; simp only [Bd]; omega
theorem WX.mk {w0 w : World} {g1 g2 L V B : Nat} {A1 A2 : Option Addr} {c1 c2 : Nat} (h : BW w0 w g1 g2 L V A1 c1 A2 c2) (hl : L ≤ B) : WX w0 w g1 g2 B := ⟨L, V, A1, c1, A2, c2, hl, h⟩

set_option maxHeartbeats 4000000 in
set_option maxRecDepth 100000 in
theorem writes_any (As : Option Addr) (m cs : Nat) (f : Nat → SOp) (w : World) (hs : WOps w As m f) (hm : m ≤ 9223372036854775807) :
    Calls Try.prog 6 #[.slice As m cs] w fun e w' => e = .returned (.bool true) ∧ Fresh w w' := by
  have HBd := Lib.hid (Bd_le f (fun i => (hs.dat i).2.1))
  have HS := Lib.hid hs
  clear hs
  go_enter Try.func6, Try.ntmps6
  go_upto_region 3 with fail
  have HX := Lib.hid (show WX w ((w.alloc (.cells #[.slice none 0 0, .int .u64 0, .int .i64 0] 27)).alloc (.cells #[.slice none 0 0, .int .i64 0] 51)) w.heap.size (w.heap.size + 1) 0 from
    ⟨0, 0, none, 0, none, 0, Nat.le_refl _, (OW.new (Upd.refl w)).fresh ((Upd.refl _).alloc _), ⟨by simpa using Blk.new (w.alloc (.cells #[.slice none 0 0, .int .u64 0, .int .i64 0] 27)) 51 #[.slice none 0 0, .int .i64 0], (World.ownsRow_nil _ _ _ _), by decide, by omega, AB.none_ _⟩, by simp⟩)
  generalize (w.alloc (.cells #[.slice none 0 0, .int .u64 0, .int .i64 0] 27)).alloc (.cells #[.slice none 0 0, .int .i64 0] 51) = w1 at HX ⊢
  generalize w.heap.size + 1 = g2 at HX ⊢
  go_wp2_with fail
  go_loopg [5] 80 (fun gk s5 wr => ∃ i : Nat, gk + i = 80 ∧ s5 = .int .i64 (i : Int) ∧ Hid (WX w wr w.heap.size g2 (Bd f i)))
  case atStart => exact ⟨0, rfl, rfl, HX.out⟩
  case round =>
    obtain ⟨i, hgk, rfl, HR⟩ := hrel
    clear HX
    by_cases him : i < m ∧ i < 80
    · obtain ⟨hm1, hi80⟩ := him
      obtain ⟨L, V, A1, c1, A2, c2, hL, hB⟩ := HR.out
      have HB := Lib.hid hB
      clear hB
      obtain ⟨sa, hsa, hsb, hcells⟩ := (HS.out.fresh HB.out.a.fr).at_ (by omega)
      subst hsa
      obtain ⟨e0, e1, e2, e3⟩ := hcells i hm1
      rw [add_far _ _ _ (by omega)] at e1 e2 e3
      clear hcells
      have hbd := HBd.out i
      have hdi := HS.out.dat i
      obtain ⟨hdr, hdl, hvl, hn1, hn2⟩ := hdi
      have HDR := Lib.hid hdr
      clear hdr
      have HBO := Lib.hid (HB.out.fresh ((Upd.refl wr).alloc (F := fun _ => False) (.cells #[.int .i64 (f i).kd, .int .i64 (f i).nn, .int .u32 (f i).v, .slice (f i).da (f i).b.length (f i).dc] 45)))
      have O3 := Lib.hid (Blk.new wr 45 #[.int .i64 (f i).kd, .int .i64 (f i).nn, .int .u32 (f i).v, .slice (f i).da (f i).b.length (f i).dc])
      have hlg1 := HB.out.a.wr.blk.lt
      have hlg2 := HB.out.b.blk.lt
      have HLA := Lib.hid (show ∀ k, A1.map (·.block) = some k → k < wr.heap.size from fun k hk => HB.out.a.wr.lt_a hk)
      have HLB := Lib.hid (show ∀ k, A2.map (·.block) = some k → k < wr.heap.size from fun k hk => HB.out.b.lt_a hk)
      have HBN := Lib.hid (show Bd f (i + 1) = Bd f i + 40 + 8 * (f i).b.length from rfl)
      have hl56 : L ≤ 700000000 := by omega
      generalize (f i).kd = kd at e0 HBO O3
      generalize (f i).nn = nn at e1 HBO O3 hn1 hn2
      generalize (f i).v = vv at e2 HBO O3 hvl
      generalize (f i).da = da at e3 HBO O3 HDR
      generalize (f i).dc = dc at e3 HBO O3
      generalize (f i).b = b at e3 HBO O3 HDR hdl HBN
      go_upto_region 7 with fail
      clear e0 e1 e2 e3 HB
      generalize wr.alloc (.cells #[.int .i64 kd, .int .i64 nn, .int .u32 vv, .slice da b.length dc] 45) = w2 at HBO O3 ⊢
      generalize wr.heap.size = go at O3 hlg1 hlg2 HLA HLB ⊢
      have HB := HBO
      clear HBO
      have o0 := O3.out.cell 0
      have o1 := O3.out.cell 1
      have o2 := O3.out.cell 2
      have o3 := O3.out.cell 3
      simp only [List.getElem?_toArray, List.getElem?_cons_zero, List.getElem?_cons_succ] at o0 o1 o2 o3
      go_upto_block 2 with fail
      go_cut [] (fun wx => Hid (WX w wx w.heap.size g2 (Bd f (i + 1))))
      case first =>
        by_cases hk0 : kd = 0
        · subst hk0
          go_wp2_with fail
          refine (put_om HB.out.a vv nn hvl (by omega)).mono ?_
          rintro e w4 ⟨rfl, A1', c1', P1, U1, S1⟩
          have HP := Lib.hid (HB.out.left U1 S1)
          have HO := Lib.hid P1
          have HC := Lib.hid (clamp_le nn)
          have O4 := Lib.hid (O3.out.upd U1 (by rintro (e | e); omega; exact absurd (HLA.out _ e) (by omega)))
          have o5 := O4.out.cell 1
          have o6 := O4.out.cell 2
          simp only [List.getElem?_toArray, List.getElem?_cons_zero, List.getElem?_cons_succ] at o5 o6
          clear U1 S1 P1
          go_wp2_with fail
          refine (rput_w HP.out.1 HO.out.fr.size vv nn hvl (by omega)).mono ?_
          rintro e w5 ⟨rfl, A2', c2', P2, U2, S2⟩
          have HF := Lib.hid (WX.mk (B := Bd f (i + 1)) (BW.right HO.out HP.out.1 HP.out.2 P2 U2 S2) (by have := HC.out; have := HBN.out; omega))
          clear P2 U2 S2 o5 o6 O4
          go_wp2_with fail
          go_meet
          exact HF.out
        · have hk0' : (kd == 0) = false := by simpa using hk0
          by_cases hk1 : kd = 1
          · subst hk1
            go_wp2_with fail
            refine (raw_w HB.out.a (by omega) da dc b HDR.out (by omega)).mono ?_
            rintro e w4 ⟨rfl, A1', c1', P1, U1, S1⟩
            have HP := Lib.hid (HB.out.left U1 S1)
            have HO := Lib.hid P1
            have O4 := Lib.hid (O3.out.upd U1 (by rintro (e | e); omega; exact absurd (HLA.out _ e) (by omega)))
            have o5 := O4.out.cell 3
            simp only [List.getElem?_toArray, List.getElem?_cons_zero, List.getElem?_cons_succ] at o5
            clear U1 S1 P1
            go_wp2_with fail
            refine (rraw_w HP.out.1 HO.out.fr.size (by omega) da dc b (fun w1 hu => HDR.out.upd (HO.out.fr.next hu (by rintro i rfl; exact HP.out.1.hg)) (fun _ _ h => h)) (by omega)).mono ?_
            rintro e w5 ⟨rfl, A2', c2', P2, U2, S2⟩
            have HF := Lib.hid (WX.mk (B := Bd f (i + 1)) (BW.right HO.out HP.out.1 HP.out.2 P2 U2 S2) (by have := HBN.out; unfold up8; omega))
            clear P2 U2 S2 o5 O4
            go_wp2_with fail
            go_meet
            exact HF.out
          · have hk1' : (kd == 1) = false := by simpa using hk1
            by_cases hk2 : kd = 2
            · subst hk2
              go_wp2_with fail
              refine (align_w HB.out.a (by omega)).mono ?_
              rintro e w4 ⟨rfl, A1', c1', P1, U1, S1⟩
              have HP := Lib.hid (HB.out.left U1 S1)
              have HO := Lib.hid P1
              clear U1 S1 P1
              go_wp2_with fail
              refine (ralign_w HP.out.1 (by omega)).mono ?_
              rintro e w5 ⟨rfl, P2, U2⟩
              have HF := Lib.hid (WX.mk (B := Bd f (i + 1)) (BW.right HO.out HP.out.1 HP.out.2 P2 (U2.mono (fun _ h => .inl h)) (fun k hk => .inl hk)) (by have := HBN.out; unfold up8; omega))
              clear P2 U2
              go_wp2_with fail
              go_meet
              exact HF.out
            · have hk2' : (kd == 2) = false := by simpa using hk2
              by_cases hk3 : kd = 3
              · subst hk3
                go_wp2_with fail
                refine (code_om HB.out.a vv nn hvl (by omega) hn1 hn2).mono ?_
                rintro e w4 ⟨rfl, A1', c1', P1, U1, S1⟩
                have HP := Lib.hid (HB.out.left U1 S1)
                have HO := Lib.hid P1
                have HC := Lib.hid (clamp_le nn)
                have O4 := Lib.hid (O3.out.upd U1 (by rintro (e | e); omega; exact absurd (HLA.out _ e) (by omega)))
                have o5 := O4.out.cell 1
                have o6 := O4.out.cell 2
                simp only [List.getElem?_toArray, List.getElem?_cons_zero, List.getElem?_cons_succ] at o5 o6
                clear U1 S1 P1
                go_wp2_with fail
                refine (rcode_w HP.out.1 HO.out.fr.size vv nn hvl (by omega) hn1 hn2).mono ?_
                rintro e w5 ⟨rfl, A2', c2', P2, U2, S2⟩
                have HF := Lib.hid (WX.mk (B := Bd f (i + 1)) (BW.right HO.out HP.out.1 HP.out.2 P2 U2 S2) (by have := HC.out; have := HBN.out; omega))
                clear P2 U2 S2 o5 o6 O4
                go_wp2_with fail
                go_meet
                exact HF.out
              · have hk3' : (kd == 3) = false := by simpa using hk3
                have hlb : (L + 7) / 8 ≤ 100000000 := by omega
                go_wp2_with fail
                refine (bytes_any _ _ _ _ _ _ HB.out.a.wr (by omega)).mono ?_
                rintro e w4 ⟨A3, rfl, ha3, hn3, hf3⟩
                have HN3 := Lib.hid hn3
                have HF3 := Lib.hid hf3
                have HA3 := Lib.hid (Scr.start ha3)
                clear ha3 hn3 hf3
                generalize (L + 7) / 8 = n at HA3 hlb ⊢
                go_wp2_with fail
                go_loopg [8] n (fun g2_ s8 wx => ∃ j : Nat, g2_ + j = n ∧ s8 = .int .i64 (j : Int) ∧ Hid (Scr w4 wx A3 n))
                case atStart => exact ⟨0, rfl, rfl, HA3.out⟩
                case round =>
                  obtain ⟨j, hgj, rfl, HX⟩ := hrel
                  by_cases hj : j < n
                  · obtain ⟨ad, x, hA3, hcell, hfz, hst⟩ := HX.out.at_ hj
                    subst hA3
                    have HST := Lib.hid hst
                    clear hst
                    go_wp2_with fail
                    go_roundg (n - (j + 1))
                    case measure => omega
                    case rel => exact ⟨j + 1, by omega, by go_num, HST.out _⟩
                  · go_wp2_with fail
                    have HF := Lib.hid (WX.mk (B := Bd f (i + 1)) (HB.out.scr HF3.out HN3.out HX.out) (by have := HBN.out; omega))
                    go_meet
                    exact HF.out
      have HR2 := Lib.hid hcut
      clear hcut HR HB O3 o0 o1 o2 o3
      obtain ⟨L', V', B1, d1, B2, d2, hL', hB'⟩ := HR2.out
      have HB := Lib.hid hB'
      clear hB'
      have hbd2 := HBd.out (i + 1)
      have hl58 : L' ≤ 700000000 := by omega
      have b0 := HB.out.b.blk.cell 0
      simp only [List.getElem?_toArray, List.getElem?_cons_zero, List.getElem?_cons_succ] at b0
      have cv0 := rw_str (HB.out.fresh ((Upd.refl wc).drew)).b
      have HC := Lib.hid (bytes_any _ _ _ _ _ _ (HB.out.a.fresh ((Upd.refl wc).drew)).wr (by omega))
      have HW := Lib.hid (WX.mk HB.out hL')
      have HB0 := Lib.hid (fun (wz : World) (hz : Fresh wc.drew wz) => HB.out.fresh (((Upd.refl wc).drew).trans hz (fun _ _ h => h)))
      clear HR2
      go_upto_region 25 with fail
      refine wp_region_held_drew (S := fun W => W.cell? ⟨g2, 0, none⟩ = some (.slice B2 ((L' + 7) / 8) d2) ∧ (convert 24 9 (.slice B2 ((L' + 7) / 8) d2)).run Try.prog W = .ok (.string ⟨(leb ((L' + 7) / 8) V').toArray⟩) W) (by kernel_rfl) ?_ (fun hHeld => ?_)
      · exact ⟨b0, cv0⟩
      change wpAnyH _ _ _ _ _ _ _ _ _
      refine wpAnyH_take (i := 2) (v := ?_) rfl (by kernel_rfl) (by kernel_rfl) (by kernel_rfl) (fun _ _ _ h => h) (Or.inl ⟨by rfl, ?_⟩) hHeld ?_
      case refine_2 => (intro w9 hS9; (try dsimp only at hS9); go_simp; try with_reducible rfl)
      try simp only [Act.put, List.setIfInBounds_toArray, List.set_cons_zero, List.set_cons_succ]
      refine wpAnyH_take (i := 3) (v := ?_) rfl (by kernel_rfl) (by kernel_rfl) (by kernel_rfl) (fun _ _ _ h => h) (Or.inl ⟨by rfl, ?_⟩) hHeld ?_
      case refine_2 => (intro w9 hS9; (try dsimp only at hS9); go_simp; try with_reducible rfl)
      try simp only [Act.put, List.setIfInBounds_toArray, List.set_cons_zero, List.set_cons_succ]
      refine wpAnyH_take (i := 4) (v := ?_) rfl (by kernel_rfl) (by kernel_rfl) (by kernel_rfl) (fun _ _ _ h => h) (Or.inl ⟨by rfl, ?_⟩) hHeld ?_
      case refine_2 => (intro w9 hS9; (try dsimp only at hS9); go_simp; try with_reducible rfl)
      try simp only [Act.put, List.setIfInBounds_toArray, List.set_cons_zero, List.set_cons_succ]
      refine wpAnyH_take (i := 5) (v := ?_) rfl (by kernel_rfl) (by kernel_rfl) (by kernel_rfl) (fun _ _ _ h => h) (Or.inl ⟨by rfl, ?_⟩) hHeld ?_
      case refine_2 => (intro w9 hS9; (try dsimp only at hS9); go_simp; try with_reducible rfl)
      try simp only [Act.put, List.setIfInBounds_toArray, List.set_cons_zero, List.set_cons_succ]
      refine wpAnyH_take (i := 6) (v := ?_) rfl (by kernel_rfl) (by kernel_rfl) (by kernel_rfl) (fun _ _ _ h => h) (Or.inl ⟨by rfl, ?_⟩) hHeld ?_
      case refine_2 => (intro w9 hS9; (try dsimp only at hS9); go_simp; try with_reducible rfl)
      try simp only [Act.put, List.setIfInBounds_toArray, List.set_cons_zero, List.set_cons_succ]
      refine wpAnyH_ready (rs := [0]) (by kernel_rfl) (by simp) ?_
      refine AllReadyH.cons rfl (fun K hK => ?_) AllReadyH.nil
      go_simp
      go_at_call 8
      refine HC.out.mono ?_
      rintro e w6 ⟨A3, rfl, ha3, hn3, hf3⟩
      have cv3 := str_of (c := (L' + 7) / 8) ha3
      have HB6 := Lib.hid (HB0.out w6 hf3)
      have b1 := HB6.out.b.blk.cell 0
      simp only [List.getElem?_toArray, List.getElem?_cons_zero, List.getElem?_cons_succ] at b1
      have cv1 := rw_str HB6.out.b
      clear ha3 hn3 hf3
      refine hK.out _ _ ?_ (fun hHeld => ?_)
      · exact ⟨b1, cv1⟩
      clear hK K
      refine wpAnyH_ready (rs := [1]) (by kernel_rfl) (by simp) ?_
      refine AllReadyH.cons rfl (fun K hK => ?_) AllReadyH.nil
      go_simp
      refine hK.out _ _ ?_ (fun hHeld => ?_)
      · exact ⟨b1, cv1⟩
      clear hK K
      refine wpAnyH_take (i := 7) (v := ?_) rfl (by kernel_rfl) (by kernel_rfl) (by kernel_rfl) (fun _ _ _ h => h) (Or.inl ⟨by rfl, ?_⟩) hHeld ?_
      case refine_2 => (intro w9 hS9; (try dsimp only at hS9); go_simp; try with_reducible rfl)
      try simp only [Act.put, List.setIfInBounds_toArray, List.set_cons_zero, List.set_cons_succ]
      refine wpAnyH_done (by kernel_rfl) ?_ _
      go_wp2_with fail
      go_roundg (80 - (i + 1))
      case measure => omega
      case rel => exact ⟨i + 1, by omega, by go_num, WX.mk HB6.out hL'⟩
    · have hd : ¬ (i : Int) < (m : Int) ∨ ¬ (i : Int) < 80 := by omega
      obtain ⟨L, V, A1, c1, A2, c2, hL, hB⟩ := HR.out
      have HF := Lib.hid hB.a.fr
      clear hB
      by_cases hm1 : i < m
      · go_wp2_with fail
        refine (awake_any _).mono ?_
        rintro e w4 ⟨rfl, h4⟩
        go_wp2_with fail
        go_ret
        exact ⟨rfl, HF.out.trans h4 (fun _ _ h => h)⟩
      · go_wp2_with fail
        refine (awake_any _).mono ?_
        rintro e w4 ⟨rfl, h4⟩
        go_wp2_with fail
        go_ret
        exact ⟨rfl, HF.out.trans h4 (fun _ _ h => h)⟩
end Go.Proofs.Ytafmkjlkeffmfaa
