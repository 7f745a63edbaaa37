import Derived.Test.YtdflbfkdegkboaaRef
namespace Go.Proofs.Ytdflbfkdegkboaa
open Go.RowKit

def RYes (v : Value) (w0 w : World) (g mtu most lost : Nat) (ds : List Rg) (A : Option Addr) (d : Rg) (e : Ending) (w' : World) : Prop :=
  e = .returned v ∧ ∃ A' c', RT w0 w' g mtu most lost (ds ++ [d]) A' c' ∧ Upd (fun i => i = g ∨ A.map (·.block) = some i) w w'

/-- The new row of a net, and the net's own field set. -/
theorem rset_end {w0 w w1 w2 : World} {g mtu most lost : Nat} {ds ds2 : List Rg} {A A2 : Option Addr} {c d2 n2 : Nat} (H : RT w0 w g mtu most lost ds A c) (hw : w0.heap.size ≤ w.heap.size) (hf : Fresh w w1) (hn : n2 = ds2.length)
    (Ho : w2.ownsRow 0 42 3 (.slice A2 n2 d2) n2 (rcells ds2)) (Hg : Upd (fun i => A.map (·.block) = some i) w1 w2)
    (Ha : ∀ k, A2.map (·.block) = some k → A.map (·.block) = some k ∨ w.heap.size ≤ k) :
    RT w0 (w2.setCell ⟨g, 3, none⟩ (.slice A2 n2 d2)) g mtu most lost ds2 A2 d2 ∧ Upd (fun i => i = g ∨ A.map (·.block) = some i) w (w2.setCell ⟨g, 3, none⟩ (.slice A2 n2 d2)) := by
  subst hn
  have N1 := H.fresh hf
  have hneA : A.map (·.block) ≠ some g := by rw [← ownBlock_map]; exact own_blk_ne N1.own N1.blk (by decide)
  have hb2 : Blk w2 g 48 _ := N1.blk.upd Hg (fun e => hneA e)
  have hu23 : Upd (fun i => i = g) w2 (w2.setCell ⟨g, 3, none⟩ (.slice A2 ds2.length d2)) := upd_set w2 ⟨g, 3, none⟩ _
  have hall : Upd (fun i => i = g ∨ A.map (·.block) = some i) w (w2.setCell ⟨g, 3, none⟩ (.slice A2 ds2.length d2)) :=
    ((hf.mono (G := fun i => i = g ∨ A.map (·.block) = some i) (fun _ h => h.elim)).trans (Hg.mono (G := fun i => i = g ∨ A.map (·.block) = some i) (fun _ h => Or.inr h)) (fun _ _ h => h)).trans (hu23.mono (G := fun i => i = g ∨ A.map (·.block) = some i) (fun _ h => Or.inl h)) (fun _ _ h => h)
  refine ⟨⟨?_, ?_, H.hg, ?_⟩, hall⟩
  · simpa using hb2.set_ 3 (.slice A2 ds2.length d2)
  · exact owns_upd Ho hu23 (fun k hk e => own_blk_ne Ho hb2 (by decide) (by rw [hk, e]))
  · intro k hk
    rcases Ha k hk with h | h
    · exact H.ha k h
    · omega

theorem ryes_end {v : Value} {w0 w w1 w2 : World} {g mtu most lost : Nat} {ds : List Rg} {d : Rg} {A A2 : Option Addr} {c d2 : Nat} (H : RT w0 w g mtu most lost ds A c) (hw : w0.heap.size ≤ w.heap.size) (hf : Fresh w w1)
    (o : Obj) (Ho : w2.ownsRow 0 42 3 (.slice A2 (ds.length + 1) d2) (ds.length + 1) (rcells ds ++ d.cells)) (Hg : (w1.alloc o).grownBy w2 (Value.slice A ds.length c).ownBlock)
    (Ha : (Value.slice A2 (ds.length + 1) d2).ownBlock = (Value.slice A ds.length c).ownBlock ∨ (Value.slice A2 (ds.length + 1) d2).ownBlock = some (w1.alloc o).heap.size) :
    RYes v w0 w g mtu most lost ds A d (.returned v) (w2.setCell ⟨g, 3, none⟩ (.slice A2 (ds.length + 1) d2)) := by
  have hu12 : Upd (fun i => A.map (·.block) = some i) w1 w2 := ((Upd.refl w1).alloc o).grown Hg (fun i hi _ => by rw [ownBlock_map] at hi; exact hi)
  have h := rset_end (ds2 := ds ++ [d]) (n2 := ds.length + 1) (d2 := d2) (A2 := A2) H hw hf (by simp) (by simpa [rcells] using Ho) hu12 (by
    intro k hk
    rw [ownBlock_map, ownBlock_map, hk] at Ha
    rcases Ha with h | h
    · exact .inl h.symm
    · injection h with h
      have h2 := hf.size
      simp at h
      exact .inr (by omega))
  exact ⟨rfl, A2, d2, h.1, h.2⟩

set_option maxHeartbeats 800000 in
theorem rsend_yes {w0 w : World} {g mtu most lost : Nat} {ds : List Rg} {A : Option Addr} {c : Nat} (h : RT w0 w g mtu most lost ds A c) (hw : w0.heap.size ≤ w.heap.size) (from_ to_ : Int) (s : ByteArray) (h1 : 0 ≤ from_) (h2 : 0 ≤ to_) (h3 : s.size ≤ mtu) (h5 : ds.length < most) (h7 : most ≤ 1000) :
    Calls Try.prog 13 #[.pointer (some ⟨g, 0, none⟩), .int .i64 from_, .int .i64 to_, .string s] w (RYes (.int .i64 0) w0 w g mtu most lost ds A ⟨from_, to_, s⟩) := by
  obtain ⟨i0, hi0, hz0, hz1, hz2⟩ := info_parts Try.info42
  have H := Lib.hid h
  have c0 := h.blk.cell 0
  have c1 := h.blk.cell 1
  have c3 := h.blk.cell 3
  simp only [List.getElem?_toArray, List.getElem?_cons_zero, List.getElem?_cons_succ] at c0 c1 c3
  have hlt := h.blk.lt
  clear h
  go_enter Try.func13, Try.ntmps13
  go_wp2
  go_quiet (fail)
  go_wp2_with (first
    | (at_builtin
       refine wpList_append_any _ rfl (.tmp 46) (.tmp 51) 46 rfl 42 i0 _ 3 32 Try.underlying46 hi0 hz0 hz1 hz2 rfl (by omega) (.slice A ds.length c) ds.length (rcells ds) rfl ((H.out.fresh ((Upd.refl w).drewN nq)).own.alloc _) (fun _ => True) (some ⟨w.heap.size, 0, none⟩) 1 1 _ rfl (reads_new (w.drewN nq) #[.int .i64 from_, .int .i64 to_, .string s] 42 3 1 rfl) (by simp [Value.oneCell']) (by unfold maxLen; omega) (by omega) ?_
       intro A2 d2 w2 hown2 hg2 hat2
       have hb2 := ((H.out.fresh ((Upd.refl w).drewN nq)).blk.alloc _).grown hg2 (fun e => own_blk_ne H.out.own H.out.blk (by decide) e.symm)
       have k3 := hb2.cell 3
       have q3 := hb2.frozen 3
       simp only [List.getElem?_toArray, List.getElem?_cons_zero, List.getElem?_cons_succ] at k3
       have Ho := Lib.hid hown2
       have Hg := Lib.hid hg2
       have Ha := Lib.hid hat2
       clear hown2 hg2 hat2 hb2))
  go_ret
  exact ryes_end H.out hw ((Upd.refl w).drewN nq) _ Ho.out Hg.out Ha.out

/-! ### At -/
theorem rcells_at (ds : List Rg) (i : Nat) (hi : i < ds.length) : (rcells ds)[i * 3]? = some (.int .i64 ds[i].frm) ∧ (rcells ds)[i * 3 + 1]? = some (.int .i64 ds[i].to_) ∧ (rcells ds)[i * 3 + 2]? = some (.string ds[i].s) := by
  induction ds generalizing i with
  | nil => simp at hi
  | cons d ds ih =>
    have e : rcells (d :: ds) = Rg.cells d ++ rcells ds := by simp [rcells]
    rcases i with _ | i
    · rw [e]; simp [Rg.cells]
    · have h := ih i (by simpa using hi)
      have e3 : ∀ j, (rcells (d :: ds))[(i + 1) * 3 + j]? = (rcells ds)[i * 3 + j]? := by
        intro j
        rw [e, List.getElem?_append_right (by simp [Rg.cells]; omega)]
        congr 1
        simp [Rg.cells]; omega
      have h0 := e3 0
      rw [Nat.add_zero, Nat.add_zero] at h0
      rw [h0, e3 1, e3 2]
      exact h
def Rg.zero : Rg := ⟨0, 0, ⟨#[]⟩⟩
def Rg.agg (d : Rg) : Value := .agg #[.int .i64 d.frm, .int .i64 d.to_, .string d.s]
def RAt (d : Rg) (k : Bool) (w : World) (e : Ending) (w' : World) : Prop := e = .returned (.tuple #[d.agg, .bool k]) ∧ Fresh w w'
set_option maxHeartbeats 400000 in
theorem rat_no {w0 w : World} {g mtu most lost : Nat} {ds : List Rg} {A : Option Addr} {c : Nat} (h : RT w0 w g mtu most lost ds A c) (i : Int) (hi : i < 0 ∨ ds.length ≤ i) :
    Calls Try.prog 18 #[.pointer (some ⟨g, 0, none⟩), .int .i64 i] w (RAt Rg.zero false w) := by
  have c3 := h.blk.cell 3
  simp only [List.getElem?_toArray, List.getElem?_cons_zero, List.getElem?_cons_succ] at c3
  have hlt := h.blk.lt
  clear h
  by_cases h1 : i < 0
  · go_enter Try.func18, Try.ntmps18
    go_wp2
    refine bodyPost_ret (v := .tuple #[Rg.zero.agg, .bool false]) (by simp [results, Try.results18, go_sem, Rg.agg, Rg.zero]) rfl ?_
    exact ⟨rfl, (Upd.refl w).alloc _⟩
  · have h2 : (ds.length : Int) ≤ i := by omega
    go_enter Try.func18, Try.ntmps18
    go_wp2
    refine bodyPost_ret (v := .tuple #[Rg.zero.agg, .bool false]) (by simp [results, Try.results18, go_sem, Rg.agg, Rg.zero]) rfl ?_
    exact ⟨rfl, (Upd.refl w).alloc _⟩
set_option maxHeartbeats 800000 in
theorem rat_yes {w0 w : World} {g mtu most lost : Nat} {ds : List Rg} {A : Option Addr} {c : Nat} (h : RT w0 w g mtu most lost ds A c) (i : Nat) (hi : i < ds.length) (hmax : ds.length ≤ 1000000) :
    Calls Try.prog 18 #[.pointer (some ⟨g, 0, none⟩), .int .i64 i] w (RAt ds[i] true w) := by
  have c3 := h.blk.cell 3
  simp only [List.getElem?_toArray, List.getElem?_cons_zero, List.getElem?_cons_succ] at c3
  have hglt := h.blk.lt
  obtain ⟨ga, cap, hv, _, hlt⟩ := h.own.form (by omega)
  injection hv with hA _ hcap
  subst hA
  subst hcap
  obtain ⟨x0, x1, x2⟩ := rcells_at ds i hi
  have e0 := h.own.cellAt (i * 3) (by omega)
  have e1 := h.own.cellAt (i * 3 + 1) (by omega)
  have e2 := h.own.cellAt (i * 3 + 2) (by omega)
  rw [x0] at e0
  rw [x1] at e1
  rw [x2] at e2
  generalize ds[i] = d at e0 e1 e2 ⊢
  clear x0 x1 x2 h
  go_enter Try.func18, Try.ntmps18
  go_wp2
  refine bodyPost_ret (v := .tuple #[d.agg, .bool true]) (by simp [results, Try.results18, go_sem, Rg.agg]) rfl ?_
  exact ⟨rfl, (Upd.refl w).alloc _⟩
end Go.Proofs.Ytdflbfkdegkboaa
