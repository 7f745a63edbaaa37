import Derived.Test.YtdflbfkdegkboaaAt
namespace Go.Proofs.Ytdflbfkdegkboaa
open Go.RowKit

def TwNo (w : World) (e : Ending) (w' : World) : Prop := e = .returned (.bool false) ∧ ∃ n, w' = w.drewN n
set_option maxHeartbeats 400000 in
theorem twice_no {w0 w : World} {g mtu most lost : Nat} {ds : List Dg} {A : Option Addr} {c : Nat} (h : ON w0 w g mtu most lost ds A c) (i : Int) (hi : i < 0 ∨ ds.length ≤ i ∨ most ≤ ds.length) :
    Calls Try.prog 15 #[.pointer (some ⟨g, 0, none⟩), .int .i64 i] w (TwNo w) := by
  have c1 := h.nt.blk.cell 1
  have c2 := h.nt.blk.cell 2
  simp only [List.getElem?_toArray, List.getElem?_cons_zero, List.getElem?_cons_succ] at c1 c2
  clear h
  by_cases h1 : i < 0
  · go_enter Try.func15, Try.ntmps15
    go_wp2
    go_quiet (fail)
    go_wp2
    go_ret
    exact ⟨rfl, _, rfl⟩
  · have d1 : decide (i < 0) = false := by simpa using h1
    by_cases h2 : (ds.length : Int) ≤ i
    · go_enter Try.func15, Try.ntmps15
      go_wp2
      go_quiet (fail)
      go_wp2
      go_ret
      exact ⟨rfl, _, rfl⟩
    · have d2 : decide ((ds.length : Int) ≤ i) = false := by simpa using h2
      have h3 : most ≤ ds.length := by omega
      go_enter Try.func15, Try.ntmps15
      go_wp2
      go_quiet (fail)
      go_wp2
      go_ret
      exact ⟨rfl, _, rfl⟩

def TwYes (w0 w : World) (g mtu most lost : Nat) (ds : List Dg) (d : Dg) (A : Option Addr) (e : Ending) (w' : World) : Prop :=
  e = .returned (.bool true) ∧ ∃ A' c', ON w0 w' g mtu most lost (ds ++ [d]) A' c' ∧ Upd (fun i => i = g ∨ A.map (·.block) = some i) w w'

theorem tw_end {w0 w w2 : World} {g mtu most lost n : Nat} {ds : List Dg} {d : Dg} {A A2 : Option Addr} {c d2 : Nat} (H : ON w0 w g mtu most lost ds A c) (hd : d.lies w)
    (o : Obj) (Ho : w2.ownsRow 0 56 3 (.slice A2 (ds.length + 1) d2) (ds.length + 1) (dcells ds ++ [.int .i64 d.frm, .int .i64 d.to_, .slice d.B d.b.length d.cap])) (Hg : ((w.drewN n).alloc o).grownBy w2 (Value.slice A ds.length c).ownBlock)
    (Ha : (Value.slice A2 (ds.length + 1) d2).ownBlock = (Value.slice A ds.length c).ownBlock ∨ (Value.slice A2 (ds.length + 1) d2).ownBlock = some ((w.drewN n).alloc o).heap.size) :
    TwYes w0 w g mtu most lost ds d A (.returned (.bool true)) (w2.setCell ⟨g, 2, none⟩ (.slice A2 (ds.length + 1) d2)) := by
  have N1 := H.nt
  have hneA : A.map (·.block) ≠ some g := by rw [← ownBlock_map]; exact own_blk_ne N1.own N1.blk (by decide)
  have hu12 : Upd (fun i => A.map (·.block) = some i) w w2 := (((Upd.refl w).drewN n).alloc o).grown Hg (fun i hi _ => by rw [ownBlock_map] at hi; exact hi)
  have hb2 : Blk w2 g 53 _ := N1.blk.upd hu12 (fun e => hneA e)
  have hF1 : NoBytes w (fun i => A.map (·.block) = some i) := by
    intro k cur hk hb
    exact own_blk_ne N1.own hb (by decide) (by rw [ownBlock_map]; exact hk)
  have hu23 : Upd (fun i => i = g) w2 (w2.setCell ⟨g, 2, none⟩ (.slice A2 (ds.length + 1) d2)) := upd_set w2 ⟨g, 2, none⟩ _
  have hF2 := noBytes_of hb2 (by decide)
  have hall : Upd (fun i => i = g ∨ A.map (·.block) = some i) w (w2.setCell ⟨g, 2, none⟩ (.slice A2 (ds.length + 1) d2)) :=
    (hu12.mono (G := fun i => i = g ∨ A.map (·.block) = some i) (fun _ h => Or.inr h)).trans (hu23.mono (G := fun i => i = g ∨ A.map (·.block) = some i) (fun _ h => Or.inl h)) (fun _ _ h => h)
  refine ⟨rfl, A2, d2, ⟨⟨?_, ?_, ?_⟩, H.fr.next hall ?_, H.hg, ?_⟩, hall⟩
  · simpa using hb2.set_ 2 (.slice A2 (ds.length + 1) d2)
  · have e : dcells (ds ++ [d]) = dcells ds ++ [.int .i64 d.frm, .int .i64 d.to_, .slice d.B d.b.length d.cap] := by simp [dcells, Dg.cells]
    rw [e, List.length_append]
    show World.ownsRow _ 0 56 3 (.slice A2 (ds.length + 1) d2) (ds.length + 1) _
    exact owns_upd Ho hu23 (fun k hk e => own_blk_ne Ho hb2 (by decide) (by rw [hk, e]))
  · intro d' hd'
    rcases List.mem_append.1 hd' with hd' | hd'
    · exact ((N1.dat d' hd').keep hu12 hF1).keep hu23 hF2
    · simp at hd'
      subst hd'
      exact (hd.keep hu12 hF1).keep hu23 hF2
  · rintro i (rfl | hi)
    · exact H.hg
    · exact H.ha i hi
  · intro k hk
    rw [ownBlock_map, ownBlock_map, hk] at Ha
    rcases Ha with h | h
    · exact H.ha k h.symm
    · injection h with h
      have h1 := H.fr.size
      simp at h
      omega

set_option maxHeartbeats 800000 in
theorem twice_yes {w0 w : World} {g mtu most lost : Nat} {ds : List Dg} {A : Option Addr} {c : Nat} (h : ON w0 w g mtu most lost ds A c) (i : Nat) (hi : i < ds.length) (hm : ds.length < most) (hmost : most ≤ 1000) :
    Calls Try.prog 15 #[.pointer (some ⟨g, 0, none⟩), .int .i64 i] w (TwYes w0 w g mtu most lost ds ds[i] A) := by
  obtain ⟨i0, hi0, hz0, hz1, hz2⟩ := info_parts Try.info56
  have c1 := h.nt.blk.cell 1
  have c2 := h.nt.blk.cell 2
  simp only [List.getElem?_toArray, List.getElem?_cons_zero, List.getElem?_cons_succ] at c1 c2
  obtain ⟨ga, cap, hv, _, hlt⟩ := h.nt.own.form (by omega)
  injection hv with hA _ hcap
  subst hA
  subst hcap
  obtain ⟨x0, x1, x2⟩ := dcells_at ds i hi
  have e0 := h.nt.own.cellAt (i * 3) (by omega)
  have e1 := h.nt.own.cellAt (i * 3 + 1) (by omega)
  have e2 := h.nt.own.cellAt (i * 3 + 2) (by omega)
  rw [x0] at e0
  rw [x1] at e1
  rw [x2] at e2
  have hd := h.nt.dat ds[i] (List.getElem_mem hi)
  generalize ds[i] = d at e0 e1 e2 hd ⊢
  have HD := Lib.hid hd
  have H := Lib.hid h
  have hglt := h.nt.blk.lt
  clear x0 x1 x2 hd h
  have c2a : ∀ (n : Nat) (o : Obj), ((w.drewN n).alloc o).cell? ⟨g, 2, none⟩ = some (.slice (some ⟨ga, 0, none⟩) ds.length c) := fun n o => (World.cell?_alloc_lt (w.drewN n) o ⟨g, 2, none⟩ hglt).trans c2
  have d1 : decide ((i : Int) < 0) = false := by simp
  have d2 : decide ((ds.length : Int) ≤ i) = false := by simp; omega
  have d3 : decide ((most : Int) ≤ ds.length) = false := by simp; omega
  go_enter Try.func15, Try.ntmps15
  go_wp2
  go_quiet (fail)
  go_wp2
  go_region_law (first
    | (go_must (refine step_append_any _ rfl (.tmp 32) (.tmp 40) 51 rfl 56 i0 _ 3 40 Try.underlying51 hi0 hz0 hz1 hz2 rfl (by omega) (.slice (some ⟨ga, 0, none⟩) ds.length c) ds.length (dcells ds) rfl ((owns_upd H.out.nt.own ((Upd.refl w).drewN (nq + 1)) (fun _ _ h => h)).alloc _) (fun _ => True) (some ⟨w.heap.size, 0, none⟩) 1 1 _ rfl (reads_new (w.drewN (nq + 1)) _ 56 3 1 rfl) (by simp [Value.oneCell']) (by unfold maxLen; omega) (by omega) ?_)
       intro A2 d2 w2 hown2 hg2 hat2
       have hb2 := ((H.out.nt.blk.drewN (nq + 1)).alloc _).grown hg2 (fun e => own_blk_ne H.out.nt.own H.out.nt.blk (by decide) e.symm)
       have k2 := hb2.cell 2
       have q2 := hb2.frozen 2
       simp only [List.getElem?_toArray, List.getElem?_cons_zero, List.getElem?_cons_succ] at k2
       have Ho := Lib.hid hown2
       have Hg := Lib.hid hg2
       have Ha := Lib.hid hat2
       clear hown2 hg2 hat2 hb2))
  all_goals go_wp2
  all_goals go_ret
  all_goals exact tw_end H.out HD.out _ Ho.out Hg.out Ha.out
end Go.Proofs.Ytdflbfkdegkboaa
