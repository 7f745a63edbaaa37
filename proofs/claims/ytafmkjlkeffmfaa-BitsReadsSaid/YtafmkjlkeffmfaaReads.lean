import Derived.Test.YtafmkjlkeffmfaaRb2
namespace Go.Proofs.Ytafmkjlkeffmfaa
open Go.RowKit

theorem Arr.upd2 {F : Nat → Prop} {w w' : World} {e : TypeId} {A : Option Addr} {n : Nat} {xs : List Value} (h : Arr w e A n xs) (hu : Upd F w w') (hd : 0 < n → ∀ k, A.map (·.block) = some k → ¬ F k) : Arr w' e A n xs := by
  refine ⟨h.1, fun hn => ?_⟩
  obtain ⟨g, cur, rfl, hb, hle, ht⟩ := h.2 hn
  exact ⟨g, cur, rfl, hb.upd hu (hd hn g rfl), hle, ht⟩
theorem Arr.typ {w : World} {e t : TypeId} {A : Option Addr} {n g : Nat} {xs : List Value} {cs : Array Value} (h : Arr w e A n xs) (hn : 0 < n) (hb : Blk w g t cs) (hne : e ≠ t) : A.map (·.block) ≠ some g := by
  obtain ⟨g', cur, rfl, hb', _⟩ := h.2 hn
  intro e2
  simp only [Option.map_some, Option.some.injEq] at e2
  exact hb'.ne_ hb hne e2
theorem ORd.keep2 {w0 w w' : World} {F : Nat → Prop} {g k : Nat} {b : List UInt8} {A : Option Addr} {c : Nat} (h : ORd w0 w g b k A c) (hu : Upd F w w') (hf : ∀ i, F i → w0.heap.size ≤ i) (h1 : ¬ F g) (h2 : 0 < b.length → ∀ k, A.map (·.block) = some k → ¬ F k) : ORd w0 w' g b k A c :=
  ⟨⟨h.rd.blk.upd hu h1, h.rd.arr.upd2 hu h2⟩, h.fr.next hu hf, h.hg, h.ha, h.hne⟩
theorem ORb.keep2 {w0 w w' : World} {F : Nat → Prop} {g k : Nat} {b : List UInt8} {A : Option Addr} {c : Nat} (h : ORb w0 w g b k A c) (hu : Upd F w w') (hf : ∀ i, F i → w0.heap.size ≤ i) (h1 : ¬ F g) (h2 : 0 < b.length → ∀ k, A.map (·.block) = some k → ¬ F k) : ORb w0 w' g b k A c :=
  ⟨⟨h.rd.blk.upd hu h1, h.rd.arr.upd2 hu h2⟩, h.fr.next hu hf, h.hg, h.ha, h.hne⟩
theorem ORd.far {w0 w w' : World} {g g' k : Nat} {b b' : List UInt8} {A A' : Option Addr} {c c' k' : Nat} (h : ORd w0 w g b k A c) (h' : ORb w0 w g' b' k' A' c') (hu : Upd (fun i => i = g') w w') : ORd w0 w' g b k A c :=
  h.keep2 hu (fun i hi => hi ▸ h'.hg) (fun e => h.rd.blk.ne_ h'.rd.blk (by decide) e) (fun hn k hk e => h.rd.arr.typ hn h'.rd.blk (by decide) (by rw [hk, e]))
theorem ORb.far {w0 w w' : World} {g g' k : Nat} {b b' : List UInt8} {A A' : Option Addr} {c c' k' : Nat} (h : ORb w0 w g b k A c) (h' : ORd w0 w g' b' k' A' c') (hu : Upd (fun i => i = g') w w') : ORb w0 w' g b k A c :=
  h.keep2 hu (fun i hi => hi ▸ h'.hg) (fun e => h.rd.blk.ne_ h'.rd.blk (by decide) e) (fun hn k hk e => h.rd.arr.typ hn h'.rd.blk (by decide) (by rw [hk, e]))
theorem ORb.since {w0 w w' : World} {g k : Nat} {b : List UInt8} {A : Option Addr} {c : Nat} (h : ORb w w' g b k A c) (hu : Fresh w0 w) : ORb w0 w' g b k A c :=
  ⟨h.rd, hu.trans h.fr (fun _ _ h => h), Nat.le_trans hu.size h.hg, fun k hk => Nat.le_trans hu.size (h.ha k hk), h.hne⟩

/-- A store into an element. -/
theorem Arr.set_ {w : World} {e : TypeId} {n : Nat} {ad : Addr} {xs : List Value} (h : Arr w e (some ad) n xs) {j : Nat} (hj : j < n) (u : Value) : Arr (w.setCell (ad.add j) u) e (some ad) n (xs.set j u) := by
  refine ⟨by simpa using h.1, fun hn => ?_⟩
  obtain ⟨g, cur, hA, hb, hle, ht⟩ := h.2 hn
  injection hA with hA
  subst hA
  refine ⟨g, cur.setIfInBounds j u, rfl, ?_, by simpa using hle, ?_⟩
  · rw [Addr.add_lit, Nat.zero_add]
    exact hb.set_ j u
  · rw [Array.toList_setIfInBounds, ← ht, List.take_set]
theorem Arr.blockOf {w : World} {e : TypeId} {n : Nat} {ad : Addr} {xs : List Value} (h : Arr w e (some ad) n xs) (j : Nat) : (ad.add j).block = ad.block := block_of_add ad j
theorem bv_ints (l : List UInt8) : ∀ u ∈ bv l, ∃ x : Int, u = .int .u8 x := by
  intro u hu
  obtain ⟨x, _, rfl⟩ := List.mem_map.1 hu
  exact ⟨_, rfl⟩
theorem ints_set {xs : List Value} (h : ∀ u ∈ xs, ∃ x : Int, u = .int .u8 x) (j : Nat) (y : Int) : ∀ u ∈ xs.set j (.int .u8 y), ∃ x : Int, u = .int .u8 x := by
  intro u hu
  rcases List.mem_or_eq_of_mem_set hu with h1 | h1
  · exact h u h1
  · exact ⟨y, h1⟩
theorem str_of {w : World} {A : Option Addr} {n c : Nat} {l : List UInt8} (h : Arr w 5 A n (bv l)) : (convert 24 9 (.slice A n c)).run Try.prog w = .ok (.string ⟨l.toArray⟩) w := by
  have hl : l.length = n := by have := h.1; simpa [bv] using this
  have h1 := run_string_of (P := Try.prog) (w := w) (S := fun k => A.map (·.block) = some k) (A := A) (c := c) (l := l) 24 9 5 Try.underlying24 Try.underlying5 Try.underlying9 (by rw [hl]; exact h.reads)
  rw [hl] at h1
  exact h1

/-- Both readers of the law, at the same bit. -/
structure Both (w0 w : World) (g1 g2 : Nat) (b : List UInt8) (k : Nat) (A1 : Option Addr) (c1 : Nat) (A2 : Option Addr) (c2 : Nat) : Prop where
  p : ORd w0 w g1 b k A1 c1
  r : ORb w0 w g2 b k A2 c2
  le : k ≤ 8 * b.length
theorem Both.fresh {w0 w w' : World} {g1 g2 : Nat} {b : List UInt8} {k : Nat} {A1 : Option Addr} {c1 : Nat} {A2 : Option Addr} {c2 : Nat} (h : Both w0 w g1 g2 b k A1 c1 A2 c2) (hu : Fresh w w') : Both w0 w' g1 g2 b k A1 c1 A2 c2 := ⟨h.p.fresh hu, h.r.fresh hu, h.le⟩

theorem add_far (a : Addr) (k j : Nat) (hj : 0 < j) : a.add (k + j) = ⟨(a.add k).block, (a.add k).off + j, none⟩ := by
  rw [← add_of_add]
  generalize a.add k = b
  unfold Addr.add
  rw [if_neg (by omega)]
/-- A list of calls that came in: element i is a struct of four cells. -/
structure OpsIn (w : World) (As : Option Addr) (m : Nat) (kd nn vv : Nat → Int) (da : Nat → Option Addr) (dn dc : Nat → Nat) : Prop where
  at_ : 0 < m → ∃ sa, As = some sa ∧ sa.block < w.heap.size ∧ ∀ i, i < m → w.cell? (sa.add (i * 4)) = some (.int .i64 (kd i)) ∧ w.cell? (sa.add (i * 4 + 1)) = some (.int .i64 (nn i)) ∧ w.cell? (sa.add (i * 4 + 2)) = some (.int .u32 (vv i)) ∧ w.cell? (sa.add (i * 4 + 3)) = some (.slice (da i) (dn i) (dc i))
  b1 : ∀ i, -9223372036854775808 ≤ kd i ∧ kd i ≤ 9223372036854775807
  b2 : ∀ i, -9223372036854775808 ≤ nn i ∧ nn i ≤ 9223372036854775807
  b3 : ∀ i, 0 ≤ vv i ∧ vv i < 4294967296
theorem OpsIn.fresh {w w' : World} {As : Option Addr} {m : Nat} {kd nn vv : Nat → Int} {da : Nat → Option Addr} {dn dc : Nat → Nat} (h : OpsIn w As m kd nn vv da dn dc) (hu : Fresh w w') : OpsIn w' As m kd nn vv da dn dc := by
  refine ⟨fun hm => ?_, h.b1, h.b2, h.b3⟩
  obtain ⟨sa, e, hb, hc⟩ := h.at_ hm
  have hk : ∀ j, w'.cell? (sa.add j) = w.cell? (sa.add j) := fun j => hu.cell (by rw [block_of_add]; exact hb) (fun h => h)
  refine ⟨sa, e, Nat.lt_of_lt_of_le hb hu.size, fun i hi => ?_⟩
  rw [hk, hk, hk, hk]
  exact hc i hi

theorem owns_none {w : World} {e : TypeId} {size n c m : Nat} {A : Option Addr} {xs : List Value} (h : w.ownsRow 0 e size (.slice A n c) m xs) (hA : A = none) : c = 0 := by
  subst hA
  rcases h.2 with ⟨hv, _⟩ | ⟨g, cap, cur, hv, _⟩
  · injection hv
  · injection hv with h1; cases h1

def ReadO2 (b : List UInt8) (w : World) (e : Ending) (w' : World) : Prop := ∃ g A c, e = .returned (.pointer (some ⟨g, 0, none⟩)) ∧ ORd w w' g b 0 A c ∧ Fresh w w' ∧ b.length ≤ c ∧ c ≤ 9223372036854775807 ∧ (A = none → c = 0)
set_option maxHeartbeats 400000 in
theorem read_o2 {S : Nat → Prop} {A : Option Addr} {c : Nat} {b : List UInt8} {w : World} (h : Reads w S 1 A b.length (bv b)) (hl : b.length ≤ 140737488355328) :
    Calls Try.prog 9 #[.slice A b.length c] w (ReadO2 b w) := by
  obtain ⟨i0, hi0, hz0, hz1, hz2⟩ := info_parts Try.info5
  have H := Lib.hid h
  clear h
  go_enter Try.func9, Try.ntmps9
  go_wp2_with (first
    | (at_builtin
       refine wpList_append_any _ rfl (.const (.slice none 0 0)) (.tmp 3) 24 rfl 5 i0 _ 1 1 Try.underlying24 hi0 hz0 hz1 hz2 rfl (by omega) (.slice none 0 0) 0 [] rfl
         ⟨by simp, .inl ⟨rfl, rfl⟩⟩ S A b.length c (bv b) rfl H.out (bv_one _) (by unfold maxLen; omega) (by omega) ?_
       intro A1 d1 w1 hown1 hg1 hat1
       simp only [Nat.zero_add, List.nil_append] at hown1 hat1 ⊢
       have Ho := Lib.hid hown1
       have Hg := Lib.hid hg1
       have Ha := Lib.hid hat1
       clear hown1 hg1 hat1))
  go_ret
  have hz := Hg.out.size
  have hfr : Fresh w w1 := (upd_grown Hg.out).mono fun i hi => by simp [Value.ownBlock] at hi
  have hcap := owns_cap Ho.out
  unfold maxLen at hcap
  refine ⟨w1.heap.size, A1, d1, rfl, ⟨⟨Blk.new _ _ _, (Arr.of_own Ho.out).upd ((Fresh.to (Upd.refl w1)).alloc (F := fun _ => False) _) (fun _ _ h => h)⟩, hfr.alloc _, hz, ?_, ?_⟩, hfr.alloc _, hcap.1, by omega, owns_none Ho.out⟩
  · intro k hk
    rcases Ha.out with h | h <;> rw [ownBlock_map, hk] at h
    · simp [Value.ownBlock] at h
    · injection h with h; omega
  · intro hk
    have := owns_lt Ho.out (k := w1.heap.size) (by rw [ownBlock_map]; exact hk)
    omega

set_option maxHeartbeats 1600000 in
set_option maxRecDepth 100000 in
theorem reads_any (S : Nat → Prop) (A : Option Addr) (c : Nat) (b : List UInt8) (As : Option Addr) (m cs : Nat) (kd nn vv : Nat → Int) (da : Nat → Option Addr) (dn dc : Nat → Nat) (w : World) (hb : Reads w S 1 A b.length (bv b)) (hs : OpsIn w As m kd nn vv da dn dc)
    (hl : b.length ≤ 140737488351232) (hm : m ≤ 9223372036854775807) :
    Calls Try.prog 5 #[.slice A b.length c, .slice As m cs] w fun e w' => e = .returned (.bool true) ∧ Fresh w w' := by
  obtain ⟨i0, hi0, hz0, hz1, hz2⟩ := info_parts Try.info5
  have HB := Lib.hid hb
  have HS := Lib.hid hs
  clear hb hs
  go_enter Try.func5, Try.ntmps5
  go_wp2_with fail
  refine (read_o2 HB.out (by omega)).mono ?_
  rintro e w1 ⟨g1, A1, c1, rfl, R1, U1, hbc1, hc1m, hn1⟩
  have R1 := Lib.hid R1
  have HN1 := Lib.hid hn1
  clear hn1
  go_wp2_with (first
    | (at_builtin
       refine wpList_append_any _ rfl (.tmp 21) (.tmp 22) 24 rfl 5 i0 _ 1 1 Try.underlying24 hi0 hz0 hz1 hz2 rfl (by omega) (.slice (some ⟨w1.heap.size, 0, none⟩) 0 0) 0 [] rfl
         (World.ownsRow_lit w1 #[] 0 (Nat.zero_le _) (by unfold maxLen; omega) rfl) S A b.length c (bv b) rfl ((HB.out.upd U1 (fun _ _ h => h)).alloc _) (bv_one _) (by unfold maxLen; omega) (by omega) ?_
       intro A2 c2 w2 hown2 hg2 hat2
       simp only [Nat.zero_add, List.nil_append] at hown2 hat2 ⊢
       have Ho := Lib.hid hown2
       have Hg := Lib.hid hg2
       have Ha := Lib.hid hat2
       clear hown2 hg2 hat2)
    | fail)
  have hcap := owns_cap Ho.out
  unfold maxLen at hcap
  have hbc2 : b.length ≤ c2 := hcap.1
  have hc2m : c2 ≤ 9223372036854775807 := by omega
  have HN2 := Lib.hid (owns_none Ho.out)
  have hfr2 : Fresh w1 w2 := ((Upd.refl w1).alloc _).grown Hg.out (fun i hi hlt => by simp [Value.ownBlock] at hi; omega)
  have hnew2 : ∀ k, A2.map (·.block) = some k → w1.heap.size ≤ k ∧ k < w2.heap.size := by
    intro k hk
    refine ⟨?_, owns_lt Ho.out (by rw [ownBlock_map]; exact hk)⟩
    rcases Ha.out with h | h <;> rw [ownBlock_map, hk] at h
    · simp [Value.ownBlock] at h; omega
    · injection h with h; simp at h; omega
  have B0 : Both w (w2.alloc (.cells #[.slice A2 b.length c2, .int .i64 0] 43)) g1 w2.heap.size b 0 A1 c1 A2 c2 := by
    refine ⟨(R1.out.fresh hfr2).fresh ((Upd.refl w2).alloc _), ⟨⟨Blk.new _ _ _, (Arr.of_own Ho.out).upd ((Upd.refl w2).alloc (F := fun _ => False) _) (fun _ _ h => h)⟩, ?_, ?_, ?_, ?_⟩, Nat.zero_le _⟩
    · exact (R1.out.fr.trans hfr2 (fun _ _ h => h)).alloc _
    · exact Nat.le_trans R1.out.fr.size hfr2.size
    · exact fun k hk => Nat.le_trans R1.out.fr.size (hnew2 k hk).1
    · intro hk; have := (hnew2 _ hk).2; omega
  have B0 := Lib.hid B0
  generalize w2.heap.size = g2 at B0 ⊢
  clear hcap hfr2 hnew2 R1 U1 Ho Hg Ha
  refine (awake_any _).mono ?_
  rintro e w3 ⟨rfl, u3⟩
  have B1 := Lib.hid (B0.out.fresh u3)
  clear B0 u3
  go_wp2_with fail
  go_loopg [7] 60 (fun gk s7 wr => ∃ i k : Nat, gk + i = 60 ∧ s7 = .int .i64 (i : Int) ∧ Hid (Both w wr g1 g2 b k A1 c1 A2 c2))
  case atStart => exact ⟨0, 0, rfl, rfl, B1.out⟩
  case round =>
    obtain ⟨i, k, hgk, rfl, B2⟩ := hrel
    by_cases him : i < m
    · by_cases hi60 : i < 60
      · obtain ⟨sa, hsa, hsb, hcells⟩ := (HS.out.fresh B2.out.p.fr).at_ (by omega)
        subst hsa
        obtain ⟨e0, e1, e2, e3⟩ := hcells i him
        rw [add_far _ _ _ (by omega)] at e1 e2 e3
        clear hcells
        have hnn := HS.out.b2 i
        by_cases hk0 : kd i = 0
        · rw [hk0] at e0
          clear hk0
          by_cases hv : 0 ≤ nn i ∧ nn i ≤ 32 ∧ nn i ≤ 8 * b.length - k
          · obtain ⟨n, hn⟩ : ∃ n : Nat, nn i = (n : Int) := ⟨(nn i).toNat, by omega⟩
            have hn32 : n ≤ 32 := by omega
            have hkle := B2.out.le
            have hnk : k + n ≤ 8 * b.length := by omega
            rw [hn] at e1
            clear hn hv hnn
            have B3 := Lib.hid (B2.out.fresh ((Upd.refl wr).alloc (F := fun _ => False) (.cells #[.int .i64 0, .int .i64 (n : Int), .int .u32 (vv i), .slice (da i) (dn i) (dc i)] 45)))
            have O3 := Lib.hid (Blk.new wr 45 #[.int .i64 0, .int .i64 (n : Int), .int .u32 (vv i), .slice (da i) (dn i) (dc i)])
            have hg1 := B2.out.p.rd.blk.lt
            have hg2 := B2.out.r.rd.blk.lt
            have hB3 : True := trivial
            go_wp2_with fail
            refine (take_o B3.out.p n (by omega) hn32 hnk).mono ?_
            rintro e w4 ⟨rfl, P4, U4⟩
            have P4 := Lib.hid P4
            have R4 := Lib.hid (B3.out.r.far B3.out.p U4)
            have O4 := Lib.hid (O3.out.upd U4 (fun e => by omega))
            have o1 := O4.out.cell 1
            simp only [List.getElem?_toArray, List.getElem?_cons_zero, List.getElem?_cons_succ] at o1
            go_wp2_with fail
            refine (rtake_yes R4.out n (by omega) hn32 hnk).mono ?_
            rintro e w5 ⟨rfl, R5, U5⟩
            have BF := Lib.hid (Both.mk (P4.out.far R4.out U5) R5 hnk)
            clear O3 O4 P4 R4 R5 U4 U5 o1
            go_wp2_with fail
            refine (used_any _ _ _ _ _ _ BF.out.p.rd (by have := BF.out.le; omega)).mono ?_
            rintro e w8 ⟨rfl, rfl⟩
            go_wp2_with fail
            refine (rused_o BF.out.r (by have := BF.out.le; omega)).mono ?_
            rintro e w9 ⟨rfl, rfl⟩
            go_wp2_with fail
            go_roundg (60 - (i + 1))
            case measure => omega
            case rel => exact ⟨i + 1, _, by omega, by go_num, BF.out⟩
          · have B3 := Lib.hid (B2.out.fresh ((Upd.refl wr).alloc (F := fun _ => False) (.cells #[.int .i64 0, .int .i64 (nn i), .int .u32 (vv i), .slice (da i) (dn i) (dc i)] 45)))
            have O3 := Lib.hid (Blk.new wr 45 #[.int .i64 0, .int .i64 (nn i), .int .u32 (vv i), .slice (da i) (dn i) (dc i)])
            have hg1 := B2.out.p.rd.blk.lt
            have hg2 := B2.out.r.rd.blk.lt
            have hB3 : True := trivial
            go_wp2_with fail
            refine (take_no _ _ _ _ _ (nn i) _ B3.out.p.rd (by omega) B3.out.le (by omega) (by omega) (by omega)).mono ?_
            rintro e w4 ⟨rfl, nq, rfl⟩
            have B4 := Lib.hid (B3.out.fresh ((Upd.refl _).drewN nq))
            go_wp2_with fail
            refine (rtake_no B4.out.r (nn i) (by omega) B4.out.le (by omega) (by omega) (by omega)).mono ?_
            rintro e w5 ⟨rfl, nq2, rfl⟩
            have BF := Lib.hid (B3.out.fresh ((Upd.refl _).drewN (nq + nq2)))
            clear B4 O3
            go_wp2_with fail
            refine (used_any _ _ _ _ _ _ BF.out.p.rd (by have := BF.out.le; omega)).mono ?_
            rintro e w8 ⟨rfl, rfl⟩
            go_wp2_with fail
            refine (rused_o BF.out.r (by have := BF.out.le; omega)).mono ?_
            rintro e w9 ⟨rfl, rfl⟩
            go_wp2_with fail
            go_roundg (60 - (i + 1))
            case measure => omega
            case rel => exact ⟨i + 1, _, by omega, by go_num, BF.out⟩
        · by_cases hk1 : kd i = 1
          · rw [hk1] at e0
            clear hk0 hk1
            by_cases hv : 0 ≤ nn i ∧ nn i ≤ (b.length : Int) - ((k + 7) / 8 : Nat)
            · obtain ⟨n, hn⟩ : ∃ n : Nat, nn i = (n : Int) := ⟨(nn i).toNat, by omega⟩
              have hnk : (k + 7) / 8 + n ≤ b.length := by omega
              rw [hn] at e1
              clear hn hv hnn
              have B3 := Lib.hid (B2.out.fresh ((Upd.refl wr).alloc (F := fun _ => False) (.cells #[.int .i64 1, .int .i64 (n : Int), .int .u32 (vv i), .slice (da i) (dn i) (dc i)] 45)))
              have O3 := Lib.hid (Blk.new wr 45 #[.int .i64 1, .int .i64 (n : Int), .int .u32 (vv i), .slice (da i) (dn i) (dc i)])
              have hg1 := B2.out.p.rd.blk.lt
              have hg2 := B2.out.r.rd.blk.lt
              have hB3 : True := trivial
              go_wp2_with fail
              refine (rbytes_yes B3.out.p n (by omega) hbc1 hc1m HN1.out B3.out.le hnk).mono ?_
              rintro e w4 ⟨A3, rfl, ha3, hf3, P4, U4⟩
              have P4 := Lib.hid P4
              have R4 := Lib.hid (B3.out.r.far B3.out.p U4)
              have O4 := Lib.hid (O3.out.upd U4 (fun e => by omega))
              have o1 := O4.out.cell 1
              simp only [List.getElem?_toArray, List.getElem?_cons_zero, List.getElem?_cons_succ] at o1
              go_wp2_with fail
              refine (rrbytes_yes R4.out n (by omega) hbc2 hc2m HN2.out B3.out.le hnk).mono ?_
              rintro e w5 ⟨A4, c4, rfl, ha4, hf4, R5, U5⟩
              have B5 := Lib.hid (Both.mk (P4.out.far R4.out U5) R5 (by omega))
              have hnew3 : ∀ k, A3.map (·.block) = some k → wr.heap.size + 1 ≤ k := fun k hk => by have := hf3 k hk; simpa using this
              have ha5 := ha3.upd U5 (fun k hk e => by have := hnew3 k hk; omega)
              have sa := str_of (c := n) ha5
              have sb := str_of (c := c4) ha4
              have HA := Lib.hid ha5
              have HF := Lib.hid hnew3
              clear P4 R4 R5 U4 U5 O3 O4 o1 ha3 hf3 ha4 hf4 ha5 hnew3
              obtain ⟨S, hS⟩ : ∃ S, S = wr.heap.size + 1 := ⟨_, rfl⟩
              rw [← hS] at HF
              have h1S : g1 < S := by omega
              have h2S : g2 < S := by omega
              have hA1 : 0 < b.length → ∀ k, A1.map (·.block) = some k → k < S := fun hb k hk => by have := B2.out.p.rd.arr.lt_a hb hk; omega
              have hA2 : 0 < b.length → ∀ k, A2.map (·.block) = some k → k < S := fun hb k hk => by have := B2.out.r.rd.arr.lt_a hb hk; omega
              have hS0 : w.heap.size ≤ S := by have := B2.out.p.fr.size; omega
              have HA1 := Lib.hid hA1
              have HA2 := Lib.hid hA2
              clear hS hA1 hA2
              go_wp2_with fail
              go_loopg [18] n (fun g2_ s18 wx => ∃ j : Nat, ∃ xs : List Value, g2_ + j = n ∧ s18 = .int .i64 (j : Int) ∧ Hid (Arr wx 5 A3 n xs ∧ (∀ u ∈ xs, ∃ x : Int, u = .int .u8 x) ∧ Upd (fun i => S ≤ i) w5 wx))
              case atStart => exact ⟨0, _, by omega, rfl, HA.out, bv_ints _, Upd.refl _⟩
              case round =>
                obtain ⟨j, xs, hgj, rfl, HX⟩ := hrel
                by_cases hj : j < n
                · obtain ⟨ad, u, hA3, _, hlt, hu, hcell⟩ := HX.out.1.reads.at_ (k := j) hj
                  subst hA3
                  obtain ⟨x, rfl⟩ := HX.out.2.1 u (List.mem_of_getElem? hu)
                  have hfz := HX.out.1.frozen rfl hj
                  clear hu
                  go_wp2_with fail
                  go_roundg (n - (j + 1))
                  case measure => omega
                  case rel => exact ⟨j + 1, _, by omega, by go_num, HX.out.1.set_ hj _, ints_set HX.out.2.1 j _, HX.out.2.2.setCell (fun _ => by rw [block_of_add]; exact HF.out _ rfl) _⟩
                · go_wp2_with fail
                  have U6 := HX.out.2.2
                  have BF := Lib.hid (Both.mk (B5.out.p.keep2 U6 (fun i hi => Nat.le_trans hS0 hi) (by omega) (fun hb k hk => by have := HA1.out hb k hk; omega)) (B5.out.r.keep2 U6 (fun i hi => Nat.le_trans hS0 hi) (by omega) (fun hb k hk => by have := HA2.out hb k hk; omega)) B5.out.le)
                  clear U6
                  refine (used_any _ _ _ _ _ _ BF.out.p.rd (by have := BF.out.le; omega)).mono ?_
                  rintro e w8 ⟨rfl, rfl⟩
                  go_wp2_with fail
                  refine (rused_o BF.out.r (by have := BF.out.le; omega)).mono ?_
                  rintro e w9 ⟨rfl, rfl⟩
                  go_wp2_with fail
                  go_roundg (60 - (i + 1))
                  case measure => omega
                  case rel => exact ⟨i + 1, _, by omega, by go_num, BF.out⟩
            · have B3 := Lib.hid (B2.out.fresh ((Upd.refl wr).alloc (F := fun _ => False) (.cells #[.int .i64 1, .int .i64 (nn i), .int .u32 (vv i), .slice (da i) (dn i) (dc i)] 45)))
              have O3 := Lib.hid (Blk.new wr 45 #[.int .i64 1, .int .i64 (nn i), .int .u32 (vv i), .slice (da i) (dn i) (dc i)])
              have hg1 := B2.out.p.rd.blk.lt
              have hg2 := B2.out.r.rd.blk.lt
              have hB3 : True := trivial
              go_wp2_with fail
              refine (rbytes_no B3.out.p (nn i) (by omega) B3.out.le (by omega) (by omega) (by omega)).mono ?_
              rintro e w4 ⟨rfl, P4, U4⟩
              have P4 := Lib.hid P4
              have R4 := Lib.hid (B3.out.r.far B3.out.p U4)
              have O4 := Lib.hid (O3.out.upd U4 (fun e => by omega))
              have o1 := O4.out.cell 1
              simp only [List.getElem?_toArray, List.getElem?_cons_zero, List.getElem?_cons_succ] at o1
              go_wp2_with fail
              refine (rrbytes_no R4.out (nn i) (by omega) B3.out.le (by omega) (by omega) (by omega)).mono ?_
              rintro e w5 ⟨rfl, R5, U5⟩
              have BF := Lib.hid (Both.mk (P4.out.far R4.out U5) R5 (by have := B3.out.le; omega))
              have sn : (convert 24 9 (.slice none 0 0)).run Try.prog w5 = .ok (.string ⟨([] : List UInt8).toArray⟩) w5 := str_of (l := []) ⟨rfl, fun h => absurd h (by omega)⟩
              clear P4 R4 R5 U4 U5 O3 O4 o1
              go_wp2_with fail
              go_loopg [18] 0 (fun g2_ s18 wx => w5 = wx ∧ s18 = .int .i64 0)
              case atStart => exact ⟨rfl, rfl⟩
              case round =>
                obtain ⟨rfl, rfl⟩ := hrel
                go_wp2_with fail
                refine (used_any _ _ _ _ _ _ BF.out.p.rd (by have := BF.out.le; omega)).mono ?_
                rintro e w8 ⟨rfl, rfl⟩
                go_wp2_with fail
                refine (rused_o BF.out.r (by have := BF.out.le; omega)).mono ?_
                rintro e w9 ⟨rfl, rfl⟩
                go_wp2_with fail
                go_roundg (60 - (i + 1))
                case measure => omega
                case rel => exact ⟨i + 1, _, by omega, by go_num, BF.out⟩
          · have hk0 : (kd i == 0) = false := by simpa using hk0
            have hk1 : (kd i == 1) = false := by simpa using hk1
            have B3 := Lib.hid (B2.out.fresh ((Upd.refl wr).alloc (F := fun _ => False) (.cells #[.int .i64 (kd i), .int .i64 (nn i), .int .u32 (vv i), .slice (da i) (dn i) (dc i)] 45)))
            have O3 := Lib.hid (Blk.new wr 45 #[.int .i64 (kd i), .int .i64 (nn i), .int .u32 (vv i), .slice (da i) (dn i) (dc i)])
            have hg1 := B2.out.p.rd.blk.lt
            have hg2 := B2.out.r.rd.blk.lt
            have hB3 : True := trivial
            go_wp2_with fail
            refine (align_o B3.out.p (by have := B3.out.le; omega)).mono ?_
            rintro e w4 ⟨rfl, P4, U4⟩
            have P4 := Lib.hid P4
            have R4 := Lib.hid (B3.out.r.far B3.out.p U4)
            go_wp2_with fail
            refine (ralign_o R4.out (by have := B3.out.le; omega)).mono ?_
            rintro e w5 ⟨rfl, R5, U5⟩
            have BF := Lib.hid (Both.mk (P4.out.far R4.out U5) R5 (by have := B3.out.le; omega))
            clear P4 R4 R5 U4 U5 O3
            go_wp2_with fail
            refine (used_any _ _ _ _ _ _ BF.out.p.rd (by have := BF.out.le; omega)).mono ?_
            rintro e w8 ⟨rfl, rfl⟩
            go_wp2_with fail
            refine (rused_o BF.out.r (by have := BF.out.le; omega)).mono ?_
            rintro e w9 ⟨rfl, rfl⟩
            go_wp2_with fail
            go_roundg (60 - (i + 1))
            case measure => omega
            case rel => exact ⟨i + 1, _, by omega, by go_num, BF.out⟩
      · go_wp2_with fail
        go_ret
        exact ⟨rfl, B2.out.p.fr⟩
    · go_wp2_with fail
      go_ret
      exact ⟨rfl, B2.out.p.fr⟩
end Go.Proofs.Ytafmkjlkeffmfaa
