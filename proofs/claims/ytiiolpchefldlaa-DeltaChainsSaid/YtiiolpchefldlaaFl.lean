import Derived.Test.YtiiolpchefldlaaWt
namespace Go.Proofs.Ytiiolpchefldlaa
open Go.RowKit

/-! ### The maker -/
/-- A block of bytes, or a maker. -/
def Mine : Obj → Prop
  | .cells _ t _ => t = 5 ∨ t = 44
  | _ => False
/-- Every block that is none of these is as it was. -/
def KeepO (w w' : World) : Prop := ∀ (k : Nat) (o : Obj), w.heap[k]? = some o → ¬ Mine o → w'.heap[k]? = some o
theorem KeepO.refl (w : World) : KeepO w w := fun _ _ h _ => h
theorem KeepO.trans {w w1 w2 : World} (h : KeepO w w1) (h2 : KeepO w1 w2) : KeepO w w2 := fun k o ho hn => h2 k o (h k o ho hn) hn
theorem keep_fresh {w w' : World} (hu : Fresh w w') : KeepO w w' := fun k _ ho _ => (hu.block k (Array.getElem?_eq_some_iff.1 ho).1 (fun h => h)).trans ho
theorem KeepO.fresh {w w1 w2 : World} (h : KeepO w w1) (hu : Fresh w1 w2) : KeepO w w2 := h.trans (keep_fresh hu)
theorem KeepO.grown {w w1 w2 : World} {row : Option Nat} (h : KeepO w w1) (hg : w1.grownBy w2 row) (hr : ∀ k o, row = some k → w1.heap[k]? = some o → Mine o) : KeepO w w2 := fun k o ho hn => by
  have h1 := h k o ho hn
  exact (hg.block k (Array.getElem?_eq_some_iff.1 h1).1 (fun e => hn (hr k o e.symm h1))).trans h1
theorem KeepO.setCell {w w1 : World} {p : Addr} (h : KeepO w w1) (hr : ∀ o, w1.heap[p.block]? = some o → Mine o) (u : Value) : KeepO w (w1.setCell p u) := fun k o ho hn => by
  have h1 := h k o ho hn
  exact (Below.heap_setCell w1 p u k (by rintro rfl; exact hn (hr o h1))).trans h1
theorem own_mine {w : World} {v : Value} {n k : Nat} {xs : List Value} {o : Obj} (h : w.ownsRow 0 5 1 v n xs) (hk : v.ownBlock = some k) (ho : w.heap[k]? = some o) : Mine o := by
  rcases h.2 with ⟨rfl, _⟩ | ⟨g, cap, cur, rfl, _, hg, _⟩
  · simp [Value.ownBlock] at hk
  · obtain rfl : g = k := by simpa [Value.ownBlock] using hk
    rw [hg] at ho
    cases ho
    exact .inl rfl
theorem blk_mine {w : World} {g : Nat} {cs : Array Value} {o : Obj} (h : Blk w g 44 cs) (ho : w.heap[g]? = some o) : Mine o := by
  unfold Blk at h
  rw [h] at ho
  cases ho
  exact .inr rfl
/-- A maker at block g: what is written (its slice's value V still in the field), what waits. -/
structure MkV (w0 wk w : World) (g : Nat) (V : Value) (Ao : Option Addr) (co : Nat) (out : List UInt8) (Aw : Option Addr) (cw : Nat) (wt : List UInt8) : Prop where
  blk : Blk w g 44 #[V, .slice Aw wt.length cw]
  own : Own w0 w Ao co out
  wait : Wt w0 w Aw cw wt
  gg : w0.heap.size ≤ g
  dis : 0 < cw → ∀ k, Aw.map (·.block) = some k → Ao.map (·.block) ≠ some k
  kp : KeepO wk w
abbrev Mkr (w0 wk w : World) (g : Nat) (Ao : Option Addr) (co : Nat) (out : List UInt8) (Aw : Option Addr) (cw : Nat) (wt : List UInt8) : Prop := MkV w0 wk w g (.slice Ao out.length co) Ao co out Aw cw wt
section
variable {w0 wk w w1 w2 w' : World} {g : Nat} {V V' : Value} {Ao Aw A2 : Option Addr} {co cw c2 n : Nat} {out wt d wt2 : List UInt8}
theorem MkV.fresh (h : MkV w0 wk w g V Ao co out Aw cw wt) (hu : Fresh w w') : MkV w0 wk w' g V Ao co out Aw cw wt := ⟨h.blk.upd hu (fun h => h), h.own.fresh hu, h.wait.fresh hu, h.gg, h.dis, h.kp.fresh hu⟩
theorem MkV.as_ (h : MkV w0 wk w g V Ao co out Aw cw wt) (hv : V = .slice Ao out.length co) : Mkr w0 wk w g Ao co out Aw cw wt := by
  subst hv
  exact h
theorem MkV.app (h : MkV w0 wk w g V Ao co out Aw cw wt) (h1 : Fresh w w1) (ho : w2.ownsRow 0 5 1 (.slice A2 n c2) n (bv out ++ bv d)) (hn : n = (out ++ d).length) (hg : w1.grownBy w2 (Value.slice Ao out.length co).ownBlock)
    (hat : (Value.slice A2 n c2).ownBlock = (Value.slice Ao out.length co).ownBlock ∨ (Value.slice A2 n c2).ownBlock = some w1.heap.size) : MkV w0 wk w2 g V A2 c2 (out ++ d) Aw cw wt := by
  have hf := h.fresh h1
  refine ⟨hf.blk.grown hg (fun e => own_blk_ne hf.own.own hf.blk (by decide) e.symm), h.own.app h1 ho hn hg hat, hf.wait.upd (upd_grown hg) (fun hc k hk e => ?_), h.gg, fun hc k hk e => ?_, hf.kp.grown hg (fun k o hk ho => own_mine hf.own.own hk ho)⟩
  · rw [ownBlock_map] at e
    exact h.dis hc k hk e
  · rw [ownBlock_map, ownBlock_map, e] at hat
    rcases hat with e2 | e2
    · exact h.dis hc k hk e2.symm
    · injection e2 with e2
      have := (hf.wait.lt hc hk).2
      omega
theorem MkV.store (h : MkV w0 wk w g V Ao co out Aw cw wt) (V' : Value) : MkV w0 wk (w.setCell ⟨g, 0, none⟩ V') g V' Ao co out Aw cw wt := by
  have hu := upd_set w ⟨g, 0, none⟩ V'
  have hb := h.blk.set_ 0 V'
  refine ⟨by simpa using hb, ⟨owns_upd h.own.own hu (fun k hk e => own_blk_ne h.own.own h.blk (by decide) (by rw [hk, e])), h.own.ab, h.own.fr.setCell (fun e => absurd e (by have := h.gg; simp; omega)) V'⟩, h.wait.upd hu (fun hc k hk e => ?_), h.gg, h.dis, h.kp.setCell (fun o ho => blk_mine h.blk ho) _⟩
  subst e
  exact absurd (h.wait.ty hc hk h.blk) (by decide)
theorem MkV.set1 (h : MkV w0 wk w g V Ao co out Aw cw wt) (hw : Wt w0 w A2 c2 wt2) (hd : 0 < c2 → ∀ k, A2.map (·.block) = some k → Ao.map (·.block) ≠ some k) (hn : n = wt2.length) : MkV w0 wk (w.setCell ⟨g, 1, none⟩ (.slice A2 n c2)) g V Ao co out A2 c2 wt2 := by
  subst hn
  have hu := upd_set w ⟨g, 1, none⟩ (.slice A2 wt2.length c2)
  have hb := h.blk.set_ 1 (.slice A2 wt2.length c2)
  refine ⟨by simpa using hb, ⟨owns_upd h.own.own hu (fun k hk e => own_blk_ne h.own.own h.blk (by decide) (by rw [hk, e])), h.own.ab, h.own.fr.setCell (fun e => absurd e (by have := h.gg; simp; omega)) _⟩, hw.upd hu (fun hc k hk e => ?_), h.gg, hd, h.kp.setCell (fun o ho => blk_mine h.blk ho) _⟩
  subst e
  exact absurd (hw.ty hc hk h.blk) (by decide)
end
/-! ### flush -/
def flushF : Nat → List UInt8 → List UInt8
  | 0, _ => []
  | f + 1, l => if l.length = 0 then [] else UInt8.ofNat (min 127 l.length) :: l.take (min 127 l.length) ++ flushF f (l.drop (min 127 l.length))
def flushS (l : List UInt8) : List UInt8 := flushF l.length l
theorem flushF_fuel : ∀ (f g : Nat) (l : List UInt8), l.length ≤ f → l.length ≤ g → flushF f l = flushF g l
  | 0, 0, l, _, _ => rfl
  | 0, g + 1, l, h, _ => by rw [flushF, flushF, if_pos (by omega)]
  | f + 1, 0, l, _, h => by rw [flushF, flushF, if_pos (by omega)]
  | f + 1, g + 1, l, h1, h2 => by
    rw [flushF, flushF]
    by_cases h : l.length = 0
    · rw [if_pos h, if_pos h]
    · rw [if_neg h, if_neg h, flushF_fuel f g (l.drop (min 127 l.length)) (by rw [List.length_drop]; omega) (by rw [List.length_drop]; omega)]
theorem flushS_nil : flushS [] = [] := rfl
theorem flushS_step {l : List UInt8} {n : Nat} (h : 0 < l.length) (hn : n = min 127 l.length) : flushS l = UInt8.ofNat n :: l.take n ++ flushS (l.drop n) := by
  unfold flushS
  obtain ⟨f, hf⟩ : ∃ f, l.length = f + 1 := ⟨l.length - 1, by omega⟩
  rw [hf, flushF, if_neg (by omega), ← hn, flushF_fuel f (l.drop n).length _ (by rw [List.length_drop]; omega) (Nat.le_refl _)]
structure FlAt (out wt out2 wt2 : List UInt8) : Prop where
  eq : out2 ++ flushS wt2 = out ++ flushS wt
  len : out2.length + 2 * wt2.length ≤ out.length + 2 * wt.length
def FlushO (w0 wk : World) (g : Nat) (res : List UInt8) (e : Ending) (w' : World) : Prop := e = .returned (.tuple #[]) ∧ ∃ Ao co Aw cw, Mkr w0 wk w' g Ao co res Aw cw []
set_option maxHeartbeats 3200000 in
set_option maxRecDepth 100000 in
theorem flush_o {w0 wk w : World} {g : Nat} {Ao Aw : Option Addr} {co cw : Nat} {out wt : List UInt8} (h : Mkr w0 wk w g Ao co out Aw cw wt) (hl : out.length + 2 * wt.length ≤ 1099511627776) :
    Calls Try.prog 20 #[.pointer (some ⟨g, 0, none⟩)] w (FlushO w0 wk g (out ++ flushS wt)) := by
  obtain ⟨i0, hi0, hz0, hz1, hz2⟩ := info_parts Try.info5
  have H := Lib.hid h
  clear h
  go_enter Try.func20, Try.ntmps20
  go_wp2_with fail
  go_loopg [] wt.length (fun gk wx => ∃ (Ao2 : Option Addr) (co2 : Nat) (out2 : List UInt8) (Aw2 : Option Addr) (cw2 : Nat) (wt2 : List UInt8), gk = wt2.length ∧ Hid (Mkr w0 wk wx g Ao2 co2 out2 Aw2 cw2 wt2) ∧ Hid (FlAt out wt out2 wt2))
  case atStart => exact ⟨Ao, co, out, Aw, cw, wt, rfl, H.out, rfl, Nat.le_refl _⟩
  case round =>
    obtain ⟨Ao2, co2, out2, Aw2, cw2, wt2, rfl, HM, HF⟩ := hrel
    have c0 := HM.out.blk.cell 0
    have c1 := HM.out.blk.cell 1
    have f0 := HM.out.blk.frozen 0
    have f1 := HM.out.blk.frozen 1
    simp only [List.getElem?_toArray, List.getElem?_cons_zero, List.getElem?_cons_succ] at c0 c1
    by_cases hw : 0 < wt2.length
    · have hlen := HF.out.len
      obtain ⟨n, hn⟩ : ∃ n, n = min 127 wt2.length := ⟨_, rfl⟩
      obtain ⟨aw, rfl, -⟩ := HM.out.wait.sl.rd.2 hw
      have hcw := HM.out.wait.le
      have hcm := HM.out.wait.cm
      have HX := Lib.hid (flushS_step hw hn)
      have hn1 : 1 ≤ n := by omega
      have hn2 : n ≤ 127 := by omega
      have hn3 : n ≤ wt2.length := by omega
      obtain ⟨y, rfl⟩ : ∃ y : UInt8, n = y.toNat := ⟨UInt8.ofNat n, by rw [UInt8.toNat_ofNat']; omega⟩
      rw [UInt8.ofNat_toNat] at HX
      go_upto_region 1 with fail
      go_cut [2] (fun sv wx => sv = .int .i64 (y.toNat : Int) ∧ wr = wx)
      case first =>
        by_cases hm : wt2.length < 127
        · have e := Lib.hid (show y.toNat = wt2.length by omega)
          clear hn
          go_wp2_with fail
          go_meet
          exact ⟨by rw [e.out], rfl⟩
        · have e := Lib.hid (show y.toNat = 127 by omega)
          clear hn
          go_wp2_with fail
          go_meet
          exact ⟨by rw [e.out]; rfl, rfl⟩
      obtain ⟨rfl, rfl⟩ := hcut
      clear hn
      have hpl : (wt2.take y.toNat).length = y.toNat := by rw [List.length_take]; omega
      have HU := Lib.hid (fun (w9 : World) (h : Wt w0 w9 (some aw) cw2 wt2) => (show Reads w9 (fun _ => True) 1 (some aw) y.toNat (bv (wt2.take y.toNat)) by
        have := (h.upto hn3).sl.rd
        rwa [hpl] at this))
      have HNX := Lib.hid (fun (w9 : World) (h : Wt w0 w9 (some aw) cw2 wt2) (e : ¬ cw2 = y.toNat) => h.from_ rfl hn3 e)
      have hdl : (wt2.drop y.toNat).length = wt2.length - y.toNat := List.length_drop
      generalize wt2.take y.toNat = p at HX hpl HU
      generalize wt2.drop y.toNat = r at HX hdl HNX
      replace hpl := Lib.hid hpl
      replace hdl := Lib.hid hdl
      go_upto_region 2 with fail
      have HM1 := Lib.hid (HM.out.fresh (((Upd.refl wr).alloc (.cells #[.int .u8 y.toNat] 5)).drew))
      have d0 := HM1.out.blk.cell 0
      have d1 := HM1.out.blk.cell 1
      simp only [List.getElem?_toArray, List.getElem?_cons_zero, List.getElem?_cons_succ] at d0 d1
      have z0 : (0 : Int) ≤ (y.toNat : Int) := by omega
      have z1 : (y.toNat : Int) ≤ (wt2.length : Int) := by omega
      have z2 : (y.toNat : Int) ≤ (cw2 : Int) := by omega
      have z3 : IntKind.u8.wrap (y.toNat : Int) = (y.toNat : Int) := by rw [IntKind.wrap_u8]; omega
      go_cut [] (fun wx => ∃ (A4 : Option Addr) (d4 : Nat) (o4 : List UInt8), o4 = out2 ++ y :: p ∧ Hid (Mkr w0 wk wx g A4 d4 o4 (some aw) cw2 wt2))
      case first =>
        refine wp_region_held_drew (S := fun W => W.cell? ⟨g, 1, none⟩ = some (.slice (some aw) wt2.length cw2)) (by kernel_rfl) ?_ (fun hHeld => ?_)
        · exact c1
        change wpAnyH _ _ _ _ _ _ _ _ _
        refine wpAnyH_take (i := 0) (v := ?_) rfl (by kernel_rfl) (by kernel_rfl) (by kernel_rfl) (fun _ _ _ h => h) (Or.inl ⟨by rfl, ?_⟩) hHeld ?_
        case refine_2 => (intro w9 hS9; (try dsimp only at hS9); go_simp; try with_reducible rfl)
        try simp only [Act.put, List.setIfInBounds_toArray, List.set_cons_zero, List.set_cons_succ]
        refine wpAnyH_take (i := 1) (v := ?_) rfl (by kernel_rfl) (by kernel_rfl) (by kernel_rfl) (fun _ _ _ h => h) (Or.inl ⟨by rfl, ?_⟩) hHeld ?_
        case refine_2 => (intro w9 hS9; (try dsimp only at hS9); go_simp; try with_reducible rfl)
        try simp only [Act.put, List.setIfInBounds_toArray, List.set_cons_zero, List.set_cons_succ]
        refine wpAnyH_take (i := 2) (v := ?_) rfl (by kernel_rfl) (by kernel_rfl) (by kernel_rfl) (fun _ _ _ h => h) (Or.inl ⟨by rfl, ?_⟩) hHeld ?_
        case refine_2 => (intro w9 hS9; (try dsimp only at hS9); go_simp; try with_reducible rfl)
        try simp only [Act.put, List.setIfInBounds_toArray, List.set_cons_zero, List.set_cons_succ]
        refine wpAnyH_take (i := 3) (v := ?_) rfl (by kernel_rfl) (by kernel_rfl) (by kernel_rfl) (fun _ _ _ h => h) (Or.inl ⟨by rfl, ?_⟩) hHeld ?_
        case refine_2 => (intro w9 hS9; (try dsimp only at hS9); go_simp; try with_reducible rfl)
        try simp only [Act.put, List.setIfInBounds_toArray, List.set_cons_zero, List.set_cons_succ]
        refine wpAnyH_take (i := 5) (v := ?_) rfl (by kernel_rfl) (by kernel_rfl) (by kernel_rfl) (fun _ _ _ h => h) (Or.inl ⟨by rfl, ?_⟩) hHeld ?_
        case refine_2 => (intro w9 hS9; (try dsimp only at hS9); go_simp; try with_reducible rfl)
        try simp only [Act.put, List.setIfInBounds_toArray, List.set_cons_zero, List.set_cons_succ]
        refine wpAnyH_take (i := 6) (v := ?_) rfl (by kernel_rfl) (by kernel_rfl) (by kernel_rfl) (fun _ _ _ h => h) (Or.inl ⟨by rfl, ?_⟩) hHeld ?_
        case refine_2 => (intro w9 hS9; (try dsimp only at hS9); go_simp; try with_reducible rfl)
        try simp only [Act.put, List.setIfInBounds_toArray, List.set_cons_zero, List.set_cons_succ]
        refine wpAnyH_take (i := 9) (v := ?_) rfl (by kernel_rfl) (by kernel_rfl) (by kernel_rfl) (fun _ _ _ h => h) (Or.inl ⟨by rfl, ?_⟩) hHeld ?_
        case refine_2 => (intro w9 hS9; (try dsimp only at hS9); go_simp; try with_reducible rfl)
        try simp only [Act.put, List.setIfInBounds_toArray, List.set_cons_zero, List.set_cons_succ]
        refine wpAnyH_take (i := 10) (v := ?_) rfl (by kernel_rfl) (by kernel_rfl) (by kernel_rfl) (fun _ _ _ h => h) (Or.inl ⟨by rfl, ?_⟩) hHeld ?_
        case refine_2 => (intro w9 hS9; (try dsimp only at hS9); go_simp; try with_reducible rfl)
        try simp only [Act.put, List.setIfInBounds_toArray, List.set_cons_zero, List.set_cons_succ]
        refine wpAnyH_take (i := 11) (v := ?_) rfl (by kernel_rfl) (by kernel_rfl) (by kernel_rfl) (fun _ _ _ h => h) (Or.inl ⟨by rfl, ?_⟩) hHeld ?_
        case refine_2 => (intro w9 hS9; (try dsimp only at hS9); go_simp; try with_reducible rfl)
        try simp only [Act.put, List.setIfInBounds_toArray, List.set_cons_zero, List.set_cons_succ]
        refine wpAnyH_take (i := 12) (v := ?_) rfl (by kernel_rfl) (by kernel_rfl) (by kernel_rfl) (fun _ _ _ h => h) (Or.inl ⟨by rfl, ?_⟩) hHeld ?_
        case refine_2 => (intro w9 hS9; (try dsimp only at hS9); go_simp; try with_reducible rfl)
        try simp only [Act.put, List.setIfInBounds_toArray, List.set_cons_zero, List.set_cons_succ]
        refine wpAnyH_take (i := 13) (v := ?_) rfl (by kernel_rfl) (by kernel_rfl) (by kernel_rfl) (fun _ _ _ h => h) (Or.inl ⟨by rfl, ?_⟩) hHeld ?_
        case refine_2 => (intro w9 hS9; (try dsimp only at hS9); go_simp; try with_reducible rfl)
        try simp only [Act.put, List.setIfInBounds_toArray, List.set_cons_zero, List.set_cons_succ]
        refine wpAnyH_take (i := 14) (v := ?_) rfl (by kernel_rfl) (by kernel_rfl) (by kernel_rfl) (fun _ _ _ h => h) (Or.inl ⟨by rfl, ?_⟩) hHeld ?_
        case refine_2 => (intro w9 hS9; (try dsimp only at hS9); go_simp; try with_reducible rfl)
        try simp only [Act.put, List.setIfInBounds_toArray, List.set_cons_zero, List.set_cons_succ]
        refine wpAnyH_ready (rs := [4, 7]) (by kernel_rfl) (by simp) ?_
        refine AllReadyH.cons rfl (fun K hK => ?_) (AllReadyH.cons rfl (fun K hK => ?_) AllReadyH.nil)
        · go_simp
          refine hK.out _ _ ?_ (fun hHeld => ?_)
          · exact c1
          clear hK K
          try simp only [Act.put, List.setIfInBounds_toArray, List.set_cons_zero, List.set_cons_succ]
          refine wpAnyH_ready (rs := [7]) (by kernel_rfl) (by simp) ?_
          refine AllReadyH.cons rfl (fun K hK => ?_) AllReadyH.nil
          go_simp
          refine hK.out _ _ ?_ (fun hHeld => ?_)
          · exact d1
          clear hK K
          try simp only [Act.put, List.setIfInBounds_toArray, List.set_cons_zero, List.set_cons_succ]
          refine wpAnyH_ready (rs := [8]) (by kernel_rfl) (by simp) ?_
          refine AllReadyH.cons rfl (fun K hK => ?_) AllReadyH.nil
          refine step_append_any _ rfl (.tmp 19) (.tmp 22) 22 rfl 5 i0 _ 1 1 Try.underlying22 hi0 hz0 hz1 hz2 rfl (by omega) (.slice Ao2 out2.length co2) out2.length (bv out2) rfl HM1.out.own.own (fun _ => True) (some ⟨wr.heap.size, 0, none⟩) 1 1 (bv [y]) rfl (reads_cells wr.drew [y] #[.int .u8 y.toNat] rfl 1 rfl) (bv_one _) (by unfold maxLen; omega) (by omega) ?_
          intro A3 d3 w3 hown3 hg3 hat3
          have HM3 := Lib.hid (HM1.out.app (Upd.refl _) hown3 (by simp) hg3 hat3)
          have e1 := HM3.out.blk.cell 1
          simp only [List.getElem?_toArray, List.getElem?_cons_zero, List.getElem?_cons_succ] at e1
          have HR3 := Lib.hid (HU.out _ HM3.out.wait)
          clear hown3 hg3 hat3
          refine hK.out _ _ ?_ (fun hHeld => ?_)
          · exact e1
          clear hK K
          try simp only [Act.put, List.setIfInBounds_toArray, List.set_cons_zero, List.set_cons_succ]
          refine wpAnyH_ready (rs := [15]) (by kernel_rfl) (by simp) ?_
          refine AllReadyH.cons rfl (fun K hK => ?_) AllReadyH.nil
          refine step_append_any _ rfl (.tmp 23) (.tmp 29) 22 rfl 5 i0 _ 1 1 Try.underlying22 hi0 hz0 hz1 hz2 rfl (by omega) (.slice A3 (out2.length + 1) d3) (out2.length + 1) (bv (out2 ++ [y])) rfl (by have := HM3.out.own.own; simpa using this) (fun _ => True) (some aw) y.toNat _ (bv p) rfl HR3.out (bv_one _) (by unfold maxLen; omega) (by omega) ?_
          intro A4 d4 w4 hown4 hg4 hat4
          have HM4 := Lib.hid (HM3.out.app (Upd.refl _) hown4 (by have := hpl.out; simp; omega) (by simpa using hg4) (by simpa using hat4))
          have k0 := HM4.out.blk.cell 0
          have k1 := HM4.out.blk.cell 1
          have kf := HM4.out.blk.frozen 0
          simp only [List.getElem?_toArray, List.getElem?_cons_zero, List.getElem?_cons_succ] at k0 k1
          clear hown4 hg4 hat4
          refine hK.out _ _ ?_ (fun hHeld => ?_)
          · exact k1
          clear hK K
          try simp only [Act.put, List.setIfInBounds_toArray, List.set_cons_zero, List.set_cons_succ]
          refine wpAnyH_take (i := 16) (v := ?_) rfl (by kernel_rfl) (by kernel_rfl) (by kernel_rfl) (fun _ _ _ h => h) (Or.inl ⟨by rfl, ?_⟩) hHeld ?_
          case refine_2 => (intro w9 hS9; (try dsimp only at hS9); go_simp; try with_reducible rfl)
          try simp only [Act.put, List.setIfInBounds_toArray, List.set_cons_zero, List.set_cons_succ]
          refine wpAnyH_take (i := 17) (v := ?_) rfl (by kernel_rfl) (by kernel_rfl) (by kernel_rfl) (fun _ _ _ h => h) (Or.inl ⟨by rfl, ?_⟩) hHeld ?_
          case refine_2 => (intro w9 hS9; (try dsimp only at hS9); go_simp; try with_reducible rfl)
          try simp only [Act.put, List.setIfInBounds_toArray, List.set_cons_zero, List.set_cons_succ]
          have HM5 := Lib.hid (HM4.out.store (.slice A4 (out2.length + 1 + y.toNat) d4))
          have m1 := HM5.out.blk.cell 1
          simp only [List.getElem?_toArray, List.getElem?_cons_zero, List.getElem?_cons_succ] at m1
          refine wpAnyH_ready (rs := [18]) (by kernel_rfl) (by simp) ?_
          refine AllReadyH.cons rfl (fun K hK => ?_) AllReadyH.nil
          go_simp
          refine hK.out _ _ ?_ (fun hHeld => ?_)
          · exact m1
          clear hK K
          try simp only [Act.put, List.setIfInBounds_toArray, List.set_cons_zero, List.set_cons_succ]
          refine wpAnyH_done (by kernel_rfl) ?_ _
          go_wp2_with fail
          go_meet
          refine ⟨A4, d4, out2 ++ [y] ++ p, ?_, ?_⟩
          · simp
          · exact HM5.out.as_ (by rw [show out2.length + 1 + y.toNat = (out2 ++ [y] ++ p).length by have := hpl.out; simp; omega])
        · go_simp
          refine hK.out _ _ ?_ (fun hHeld => ?_)
          · exact d1
          clear hK K
          try simp only [Act.put, List.setIfInBounds_toArray, List.set_cons_zero, List.set_cons_succ]
          refine wpAnyH_ready (rs := [4]) (by kernel_rfl) (by simp) ?_
          refine AllReadyH.cons rfl (fun K hK => ?_) AllReadyH.nil
          go_simp
          refine hK.out _ _ ?_ (fun hHeld => ?_)
          · exact d1
          clear hK K
          try simp only [Act.put, List.setIfInBounds_toArray, List.set_cons_zero, List.set_cons_succ]
          refine wpAnyH_ready (rs := [8]) (by kernel_rfl) (by simp) ?_
          refine AllReadyH.cons rfl (fun K hK => ?_) AllReadyH.nil
          refine step_append_any _ rfl (.tmp 19) (.tmp 22) 22 rfl 5 i0 _ 1 1 Try.underlying22 hi0 hz0 hz1 hz2 rfl (by omega) (.slice Ao2 out2.length co2) out2.length (bv out2) rfl HM1.out.own.own (fun _ => True) (some ⟨wr.heap.size, 0, none⟩) 1 1 (bv [y]) rfl (reads_cells wr.drew [y] #[.int .u8 y.toNat] rfl 1 rfl) (bv_one _) (by unfold maxLen; omega) (by omega) ?_
          intro A3 d3 w3 hown3 hg3 hat3
          have HM3 := Lib.hid (HM1.out.app (Upd.refl _) hown3 (by simp) hg3 hat3)
          have e1 := HM3.out.blk.cell 1
          simp only [List.getElem?_toArray, List.getElem?_cons_zero, List.getElem?_cons_succ] at e1
          have HR3 := Lib.hid (HU.out _ HM3.out.wait)
          clear hown3 hg3 hat3
          refine hK.out _ _ ?_ (fun hHeld => ?_)
          · exact e1
          clear hK K
          try simp only [Act.put, List.setIfInBounds_toArray, List.set_cons_zero, List.set_cons_succ]
          refine wpAnyH_ready (rs := [15]) (by kernel_rfl) (by simp) ?_
          refine AllReadyH.cons rfl (fun K hK => ?_) AllReadyH.nil
          refine step_append_any _ rfl (.tmp 23) (.tmp 29) 22 rfl 5 i0 _ 1 1 Try.underlying22 hi0 hz0 hz1 hz2 rfl (by omega) (.slice A3 (out2.length + 1) d3) (out2.length + 1) (bv (out2 ++ [y])) rfl (by have := HM3.out.own.own; simpa using this) (fun _ => True) (some aw) y.toNat _ (bv p) rfl HR3.out (bv_one _) (by unfold maxLen; omega) (by omega) ?_
          intro A4 d4 w4 hown4 hg4 hat4
          have HM4 := Lib.hid (HM3.out.app (Upd.refl _) hown4 (by have := hpl.out; simp; omega) (by simpa using hg4) (by simpa using hat4))
          have k0 := HM4.out.blk.cell 0
          have k1 := HM4.out.blk.cell 1
          have kf := HM4.out.blk.frozen 0
          simp only [List.getElem?_toArray, List.getElem?_cons_zero, List.getElem?_cons_succ] at k0 k1
          clear hown4 hg4 hat4
          refine hK.out _ _ ?_ (fun hHeld => ?_)
          · exact k1
          clear hK K
          try simp only [Act.put, List.setIfInBounds_toArray, List.set_cons_zero, List.set_cons_succ]
          refine wpAnyH_take (i := 16) (v := ?_) rfl (by kernel_rfl) (by kernel_rfl) (by kernel_rfl) (fun _ _ _ h => h) (Or.inl ⟨by rfl, ?_⟩) hHeld ?_
          case refine_2 => (intro w9 hS9; (try dsimp only at hS9); go_simp; try with_reducible rfl)
          try simp only [Act.put, List.setIfInBounds_toArray, List.set_cons_zero, List.set_cons_succ]
          refine wpAnyH_take (i := 17) (v := ?_) rfl (by kernel_rfl) (by kernel_rfl) (by kernel_rfl) (fun _ _ _ h => h) (Or.inl ⟨by rfl, ?_⟩) hHeld ?_
          case refine_2 => (intro w9 hS9; (try dsimp only at hS9); go_simp; try with_reducible rfl)
          try simp only [Act.put, List.setIfInBounds_toArray, List.set_cons_zero, List.set_cons_succ]
          have HM5 := Lib.hid (HM4.out.store (.slice A4 (out2.length + 1 + y.toNat) d4))
          have m1 := HM5.out.blk.cell 1
          simp only [List.getElem?_toArray, List.getElem?_cons_zero, List.getElem?_cons_succ] at m1
          refine wpAnyH_ready (rs := [18]) (by kernel_rfl) (by simp) ?_
          refine AllReadyH.cons rfl (fun K hK => ?_) AllReadyH.nil
          go_simp
          refine hK.out _ _ ?_ (fun hHeld => ?_)
          · exact m1
          clear hK K
          try simp only [Act.put, List.setIfInBounds_toArray, List.set_cons_zero, List.set_cons_succ]
          refine wpAnyH_done (by kernel_rfl) ?_ _
          go_wp2_with fail
          go_meet
          refine ⟨A4, d4, out2 ++ [y] ++ p, ?_, ?_⟩
          · simp
          · exact HM5.out.as_ (by rw [show out2.length + 1 + y.toNat = (out2 ++ [y] ++ p).length by have := hpl.out; simp; omega])
      obtain ⟨A4, d4, o4, ho4, HM4⟩ := hcut
      have hol : o4.length = out2.length + 1 + y.toNat := by have := hpl.out; rw [ho4]; simp; omega
      replace ho4 := Lib.hid ho4
      replace hol := Lib.hid hol
      clear HM1 d0 d1 c0 c1 f0 f1 HU
      have c1 := HM4.out.blk.cell 1
      have f1 := HM4.out.blk.frozen 1
      simp only [List.getElem?_toArray, List.getElem?_cons_zero, List.getElem?_cons_succ] at c1
      have HSA := Lib.hid (show cw2 = y.toNat → Mkr w0 wk (wc.setCell ⟨g, 1, none⟩ (.slice (some aw) (wt2.length - y.toNat) 0)) g A4 d4 o4 (some aw) 0 r from fun e => by
        have hr : r = [] := List.eq_nil_of_length_eq_zero (by have := hdl.out; omega)
        subst hr
        exact HM4.out.set1 HM4.out.wait.empty (fun h => absurd h (by omega)) (by have := hdl.out; simpa using this.symm))
      have HSB := Lib.hid (show ¬ cw2 = y.toNat → Mkr w0 wk (wc.setCell ⟨g, 1, none⟩ (.slice (some (aw.add y.toNat)) (wt2.length - y.toNat) (cw2 - y.toNat))) g A4 d4 o4 (some (aw.add y.toNat)) (cw2 - y.toNat) r from fun e =>
        HM4.out.set1 (HNX.out _ HM4.out.wait e) (fun _ k hk => HM4.out.dis (by omega) k (by rw [← hk]; simp [block_of_add])) hdl.out.symm)
      go_wp2_with fail
      all_goals
        go_roundg r.length
        case measure => have := hdl.out; omega
        case rel =>
          have hlen2 : o4.length + 2 * r.length ≤ out.length + 2 * wt.length := by have := hdl.out; have := hol.out; omega
          have heq : o4 ++ flushS r = out ++ flushS wt := by
            rw [← HF.out.eq, HX.out, ho4.out]
            simp
          first
            | exact ⟨A4, d4, o4, some aw, 0, r, rfl, HSA.out (by assumption), heq, hlen2⟩
            | exact ⟨A4, d4, o4, some (aw.add y.toNat), cw2 - y.toNat, r, rfl, HSB.out (by assumption), heq, hlen2⟩
    · obtain rfl : wt2 = [] := List.eq_nil_of_length_eq_zero (by omega)
      go_wp2_with fail
      go_end0
      have heq := HF.out.eq
      rw [flushS_nil, List.append_nil] at heq
      subst heq
      exact ⟨rfl, Ao2, co2, Aw2, cw2, HM.out⟩
end Go.Proofs.Ytiiolpchefldlaa
