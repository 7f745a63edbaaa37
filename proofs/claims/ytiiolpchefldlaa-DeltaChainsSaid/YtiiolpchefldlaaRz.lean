import Derived.Test.YtiiolpchefldlaaSz
namespace Go.Proofs.Ytiiolpchefldlaa
open Go.RowKit

/-! ### The document's Sizes -/
def rsizesS (b : List UInt8) : Nat × Nat × Nat × Nat :=
  if (rnumS b).2.2 ≠ 0 then (0, 0, 0, (rnumS b).2.2)
  else if (rnumS (b.drop (rnumS b).2.1)).2.2 ≠ 0 then (0, 0, 0, (rnumS (b.drop (rnumS b).2.1)).2.2)
  else ((rnumS b).1, (rnumS (b.drop (rnumS b).2.1)).1, (rnumS b).2.1 + (rnumS (b.drop (rnumS b).2.1)).2.1, 0)
def RSizesO (r : Nat × Nat × Nat × Nat) (w : World) (e : Ending) (w' : World) : Prop := e = .returned (.agg #[.int .i64 (r.1 : Int), .int .i64 (r.2.1 : Int), .int .i64 (r.2.2.1 : Int), .int .i64 (r.2.2.2 : Int)]) ∧ Fresh w w'
theorem rnumS_le (b : List UInt8) : (rnumS b).2.1 ≤ b.length := by
  unfold rnumS
  dsimp only
  split
  · omega
  · omega
theorem fin4 {w0 w : World} {g : Nat} {a b d e : Value} (h : Fresh w0 w) (hb : Blk w g 37 #[a, b, d, e]) (hg : w0.heap.size ≤ g) (x y z u : Value) :
    Blk ((((w.setCell ⟨g, 0, none⟩ x).setCell ⟨g, 1, none⟩ y).setCell ⟨g, 2, none⟩ z).setCell ⟨g, 3, none⟩ u) g 37 #[x, y, z, u] ∧ Fresh w0 ((((w.setCell ⟨g, 0, none⟩ x).setCell ⟨g, 1, none⟩ y).setCell ⟨g, 2, none⟩ z).setCell ⟨g, 3, none⟩ u) := by
  have b3 := (((hb.set_ 0 x).set_ 1 y).set_ 2 z).set_ 3 u
  have hn : ¬ g < w0.heap.size := by omega
  exact ⟨by simpa using b3, (((h.setCell (fun e => absurd e hn) x).setCell (fun e => absurd e hn) y).setCell (fun e => absurd e hn) z).setCell (fun e => absurd e hn) u⟩
set_option maxHeartbeats 1600000 in
set_option maxRecDepth 100000 in
theorem rsizes_o {A : Option Addr} {c : Nat} {b : List UInt8} {w : World} (h : Sl w A b c) : Calls Try.prog 14 #[.slice A b.length c] w (RSizesO (rsizesS b) w) := by
  have HS := Lib.hid h
  have hu := rnumS_le b
  have hu2 := rnumS_le (b.drop (rnumS b).2.1)
  rw [List.length_drop] at hu2
  have hbc := h.le
  have hcm := h.cm
  have H1 := Lib.hid (fun (w1 : World) (hf : Fresh w w1) => rdecn_o (h.fresh hf))
  have H2 := Lib.hid (fun (w1 : World) (A1 : Option Addr) (c1 : Nat) (h1 : Sl w1 A1 (b.drop (rnumS b).2.1) c1) => rdecn_o h1)
  unfold rsizesS
  clear h
  generalize hr1 : rnumS b = r at H1 H2 hu hu2
  obtain ⟨v, u, e0⟩ := r
  dsimp only at H1 H2 hu hu2 ⊢
  generalize rnumS (b.drop u) = r2 at H2 hu2
  obtain ⟨v2, u2, e2⟩ := r2
  dsimp only at H2 hu2 ⊢
  clear hr1
  obtain ⟨R, hR⟩ : ∃ R : Nat × Nat × Nat × Nat, (if e0 ≠ 0 then (0, 0, 0, e0) else if e2 ≠ 0 then (0, 0, 0, e2) else (v, v2, u + u2, 0)) = R := ⟨_, rfl⟩
  rw [hR]
  have HR := Lib.hid hR
  clear hR
  go_enter Try.func14, Try.ntmps14
  go_upto_region 1 with fail
  have HB := Lib.hid (Blk.new w 37 #[.int .i64 0, .int .i64 0, .int .i64 0, .int .i64 0])
  have HF := Lib.hid (show Fresh w (w.alloc (.cells #[.int .i64 0, .int .i64 0, .int .i64 0, .int .i64 0] 37)) from (Upd.refl w).alloc _)
  have hgr : w.heap.size ≤ w.heap.size := Nat.le_refl _
  generalize w.alloc (.cells #[.int .i64 0, .int .i64 0, .int .i64 0, .int .i64 0] 37) = w1 at HB HF ⊢
  have HG := Lib.hid hgr
  obtain ⟨gr, hgr2⟩ : ∃ gr, w.heap.size = gr := ⟨_, rfl⟩
  have HG := Lib.hid (show w.heap.size ≤ gr by omega)
  rw [hgr2] at HB ⊢
  clear hgr hgr2
  go_wp2_with fail
  refine (H1.out _ HF.out).mono ?_
  rintro e w2 ⟨rfl, F2⟩
  have F2 := Lib.hid F2
  have HB2 := Lib.hid (HB.out.upd F2.out (fun h => h))
  have c0 := HB2.out.cell 0
  have c1 := HB2.out.cell 1
  have c2 := HB2.out.cell 2
  have c3 := HB2.out.cell 3
  simp only [List.getElem?_toArray, List.getElem?_cons_zero, List.getElem?_cons_succ] at c0 c1 c2 c3
  have f0 := HB2.out.frozen 0
  have f1 := HB2.out.frozen 1
  have f2 := HB2.out.frozen 2
  have f3 := HB2.out.frozen 3
  have HF2 := Lib.hid (HF.out.trans F2.out (fun _ _ h => h))
  by_cases he : e0 = 0
  · subst he
    have huI : (u : Int) ≤ (b.length : Int) := by omega
    have hbI : (b.length : Int) ≤ (c : Int) := by omega
    rw [List.length_drop] at H2
    rcases A with _ | ad
    · obtain rfl : b = [] := List.eq_nil_of_length_eq_zero (HS.out.rd.zero).1
      obtain rfl : u = 0 := by simpa using hu
      obtain rfl := HS.out.nn rfl
      have HS2 := Lib.hid (show Sl w none (([] : List UInt8).drop 0) 0 from Sl.nil w)
      go_wp2_with fail
      refine (H2.out _ _ _ (HS2.out.fresh HF2.out)).mono ?_
      rintro e w3 ⟨rfl, F3⟩
      have F3 := Lib.hid F3
      have HB3 := Lib.hid (HB2.out.upd F3.out (fun h => h))
      have d0 := HB3.out.cell 0
      have d1 := HB3.out.cell 1
      have d2 := HB3.out.cell 2
      have d3 := HB3.out.cell 3
      simp only [List.getElem?_toArray, List.getElem?_cons_zero, List.getElem?_cons_succ] at d0 d1 d2 d3
      have g0 := HB3.out.frozen 0
      have g1 := HB3.out.frozen 1
      have g2 := HB3.out.frozen 2
      have g3 := HB3.out.frozen 3
      have HF3 := Lib.hid (HF2.out.trans F3.out (fun _ _ h => h))
      by_cases he2 : e2 = 0
      · subst he2
        have HX := Lib.hid (fin4 HF3.out HB3.out HG.out (.int .i64 (v : Int)) (.int .i64 (v2 : Int)) (.int .i64 (u2 : Int)) (.int .i64 0))
        go_wp2_with fail
        generalize (((w3.setCell ⟨gr, 0, none⟩ (.int .i64 (v : Int))).setCell ⟨gr, 1, none⟩ (.int .i64 (v2 : Int))).setCell ⟨gr, 2, none⟩ (.int .i64 (u2 : Int))).setCell ⟨gr, 3, none⟩ (.int .i64 0) = w9 at HX ⊢
        have q0 := HX.out.1.cell 0
        have q1 := HX.out.1.cell 1
        have q2 := HX.out.1.cell 2
        have q3 := HX.out.1.cell 3
        simp only [List.getElem?_toArray, List.getElem?_cons_zero, List.getElem?_cons_succ] at q0 q1 q2 q3
        refine bodyPost_ret (v := .agg #[.int .i64 (v : Int), .int .i64 (v2 : Int), .int .i64 (u2 : Int), .int .i64 0]) (by simp [results, Try.results14, go_sem, q0, q1, q2, q3]) rfl ?_
        have hR := HR.out
        rw [if_neg (by simp), if_neg (by simp), Nat.zero_add] at hR
        rw [← hR]
        exact ⟨rfl, HX.out.2⟩
      · have b2 : ((e2 : Int) == 0) = false := by simpa using he2
        have HX := Lib.hid (fin4 HF3.out HB3.out HG.out (.int .i64 0) (.int .i64 0) (.int .i64 0) (.int .i64 (e2 : Int)))
        go_wp2_with fail
        generalize (((w3.setCell ⟨gr, 0, none⟩ (.int .i64 0)).setCell ⟨gr, 1, none⟩ (.int .i64 0)).setCell ⟨gr, 2, none⟩ (.int .i64 0)).setCell ⟨gr, 3, none⟩ (.int .i64 (e2 : Int)) = w9 at HX ⊢
        have q0 := HX.out.1.cell 0
        have q1 := HX.out.1.cell 1
        have q2 := HX.out.1.cell 2
        have q3 := HX.out.1.cell 3
        simp only [List.getElem?_toArray, List.getElem?_cons_zero, List.getElem?_cons_succ] at q0 q1 q2 q3
        refine bodyPost_ret (v := .agg #[.int .i64 0, .int .i64 0, .int .i64 0, .int .i64 (e2 : Int)]) (by simp [results, Try.results14, go_sem, q0, q1, q2, q3]) rfl ?_
        have hR := HR.out
        rw [if_neg (by simp), if_pos he2] at hR
        rw [← hR]
        exact ⟨rfl, HX.out.2⟩
    · by_cases hcu : c = u
      · have HS2 := Lib.hid (show Sl w (some ad) (b.drop u) 0 from by
          have := HS.out.from_ (k := u) hu
          rw [if_pos hcu, show c - u = 0 by omega] at this
          exact this)
        subst hcu
        rw [show b.length - c = 0 by omega] at H2
        go_wp2_with fail
        refine (H2.out _ _ _ (HS2.out.fresh HF2.out)).mono ?_
        rintro e w3 ⟨rfl, F3⟩
        have F3 := Lib.hid F3
        have HB3 := Lib.hid (HB2.out.upd F3.out (fun h => h))
        have d0 := HB3.out.cell 0
        have d1 := HB3.out.cell 1
        have d2 := HB3.out.cell 2
        have d3 := HB3.out.cell 3
        simp only [List.getElem?_toArray, List.getElem?_cons_zero, List.getElem?_cons_succ] at d0 d1 d2 d3
        have g0 := HB3.out.frozen 0
        have g1 := HB3.out.frozen 1
        have g2 := HB3.out.frozen 2
        have g3 := HB3.out.frozen 3
        have HF3 := Lib.hid (HF2.out.trans F3.out (fun _ _ h => h))
        by_cases he2 : e2 = 0
        · subst he2
          have HX := Lib.hid (fin4 HF3.out HB3.out HG.out (.int .i64 (v : Int)) (.int .i64 (v2 : Int)) (.int .i64 ((c : Int) + (u2 : Int))) (.int .i64 0))
          go_wp2_with fail
          generalize (((w3.setCell ⟨gr, 0, none⟩ (.int .i64 (v : Int))).setCell ⟨gr, 1, none⟩ (.int .i64 (v2 : Int))).setCell ⟨gr, 2, none⟩ (.int .i64 ((c : Int) + (u2 : Int)))).setCell ⟨gr, 3, none⟩ (.int .i64 0) = w9 at HX ⊢
          have q0 := HX.out.1.cell 0
          have q1 := HX.out.1.cell 1
          have q2 := HX.out.1.cell 2
          have q3 := HX.out.1.cell 3
          simp only [List.getElem?_toArray, List.getElem?_cons_zero, List.getElem?_cons_succ] at q0 q1 q2 q3
          refine bodyPost_ret (v := .agg #[.int .i64 (v : Int), .int .i64 (v2 : Int), .int .i64 ((c : Int) + (u2 : Int)), .int .i64 0]) (by simp [results, Try.results14, go_sem, q0, q1, q2, q3]) rfl ?_
          have hR := HR.out
          rw [if_neg (by simp), if_neg (by simp)] at hR
          rw [← hR]
          exact ⟨rfl, HX.out.2⟩
        · have b2 : ((e2 : Int) == 0) = false := by simpa using he2
          have HX := Lib.hid (fin4 HF3.out HB3.out HG.out (.int .i64 0) (.int .i64 0) (.int .i64 0) (.int .i64 (e2 : Int)))
          go_wp2_with fail
          generalize (((w3.setCell ⟨gr, 0, none⟩ (.int .i64 0)).setCell ⟨gr, 1, none⟩ (.int .i64 0)).setCell ⟨gr, 2, none⟩ (.int .i64 0)).setCell ⟨gr, 3, none⟩ (.int .i64 (e2 : Int)) = w9 at HX ⊢
          have q0 := HX.out.1.cell 0
          have q1 := HX.out.1.cell 1
          have q2 := HX.out.1.cell 2
          have q3 := HX.out.1.cell 3
          simp only [List.getElem?_toArray, List.getElem?_cons_zero, List.getElem?_cons_succ] at q0 q1 q2 q3
          refine bodyPost_ret (v := .agg #[.int .i64 0, .int .i64 0, .int .i64 0, .int .i64 (e2 : Int)]) (by simp [results, Try.results14, go_sem, q0, q1, q2, q3]) rfl ?_
          have hR := HR.out
          rw [if_neg (by simp), if_pos he2] at hR
          rw [← hR]
          exact ⟨rfl, HX.out.2⟩
      · have HS2 := Lib.hid (show Sl w (some (ad.add u)) (b.drop u) (c - u) from by
          have := HS.out.from_ (k := u) hu
          rw [if_neg hcu] at this
          exact this)
        go_wp2_with fail
        refine (H2.out _ _ _ (HS2.out.fresh HF2.out)).mono ?_
        rintro e w3 ⟨rfl, F3⟩
        have F3 := Lib.hid F3
        have HB3 := Lib.hid (HB2.out.upd F3.out (fun h => h))
        have d0 := HB3.out.cell 0
        have d1 := HB3.out.cell 1
        have d2 := HB3.out.cell 2
        have d3 := HB3.out.cell 3
        simp only [List.getElem?_toArray, List.getElem?_cons_zero, List.getElem?_cons_succ] at d0 d1 d2 d3
        have g0 := HB3.out.frozen 0
        have g1 := HB3.out.frozen 1
        have g2 := HB3.out.frozen 2
        have g3 := HB3.out.frozen 3
        have HF3 := Lib.hid (HF2.out.trans F3.out (fun _ _ h => h))
        by_cases he2 : e2 = 0
        · subst he2
          have HX := Lib.hid (fin4 HF3.out HB3.out HG.out (.int .i64 (v : Int)) (.int .i64 (v2 : Int)) (.int .i64 ((u : Int) + (u2 : Int))) (.int .i64 0))
          go_wp2_with fail
          generalize (((w3.setCell ⟨gr, 0, none⟩ (.int .i64 (v : Int))).setCell ⟨gr, 1, none⟩ (.int .i64 (v2 : Int))).setCell ⟨gr, 2, none⟩ (.int .i64 ((u : Int) + (u2 : Int)))).setCell ⟨gr, 3, none⟩ (.int .i64 0) = w9 at HX ⊢
          have q0 := HX.out.1.cell 0
          have q1 := HX.out.1.cell 1
          have q2 := HX.out.1.cell 2
          have q3 := HX.out.1.cell 3
          simp only [List.getElem?_toArray, List.getElem?_cons_zero, List.getElem?_cons_succ] at q0 q1 q2 q3
          refine bodyPost_ret (v := .agg #[.int .i64 (v : Int), .int .i64 (v2 : Int), .int .i64 ((u : Int) + (u2 : Int)), .int .i64 0]) (by simp [results, Try.results14, go_sem, q0, q1, q2, q3]) rfl ?_
          have hR := HR.out
          rw [if_neg (by simp), if_neg (by simp)] at hR
          rw [← hR]
          exact ⟨rfl, HX.out.2⟩
        · have b2 : ((e2 : Int) == 0) = false := by simpa using he2
          have HX := Lib.hid (fin4 HF3.out HB3.out HG.out (.int .i64 0) (.int .i64 0) (.int .i64 0) (.int .i64 (e2 : Int)))
          go_wp2_with fail
          generalize (((w3.setCell ⟨gr, 0, none⟩ (.int .i64 0)).setCell ⟨gr, 1, none⟩ (.int .i64 0)).setCell ⟨gr, 2, none⟩ (.int .i64 0)).setCell ⟨gr, 3, none⟩ (.int .i64 (e2 : Int)) = w9 at HX ⊢
          have q0 := HX.out.1.cell 0
          have q1 := HX.out.1.cell 1
          have q2 := HX.out.1.cell 2
          have q3 := HX.out.1.cell 3
          simp only [List.getElem?_toArray, List.getElem?_cons_zero, List.getElem?_cons_succ] at q0 q1 q2 q3
          refine bodyPost_ret (v := .agg #[.int .i64 0, .int .i64 0, .int .i64 0, .int .i64 (e2 : Int)]) (by simp [results, Try.results14, go_sem, q0, q1, q2, q3]) rfl ?_
          have hR := HR.out
          rw [if_neg (by simp), if_pos he2] at hR
          rw [← hR]
          exact ⟨rfl, HX.out.2⟩
  · have b2 : ((e0 : Int) == 0) = false := by simpa using he
    have HX := Lib.hid (fin4 HF2.out HB2.out HG.out (.int .i64 0) (.int .i64 0) (.int .i64 0) (.int .i64 (e0 : Int)))
    go_wp2_with fail
    generalize (((w2.setCell ⟨gr, 0, none⟩ (.int .i64 0)).setCell ⟨gr, 1, none⟩ (.int .i64 0)).setCell ⟨gr, 2, none⟩ (.int .i64 0)).setCell ⟨gr, 3, none⟩ (.int .i64 (e0 : Int)) = w9 at HX ⊢
    have q0 := HX.out.1.cell 0
    have q1 := HX.out.1.cell 1
    have q2 := HX.out.1.cell 2
    have q3 := HX.out.1.cell 3
    simp only [List.getElem?_toArray, List.getElem?_cons_zero, List.getElem?_cons_succ] at q0 q1 q2 q3
    refine bodyPost_ret (v := .agg #[.int .i64 0, .int .i64 0, .int .i64 0, .int .i64 (e0 : Int)]) (by simp [results, Try.results14, go_sem, q0, q1, q2, q3]) rfl ?_
    have hR := HR.out
    rw [if_pos he] at hR
    rw [← hR]
    exact ⟨rfl, HX.out.2⟩
end Go.Proofs.Ytiiolpchefldlaa
