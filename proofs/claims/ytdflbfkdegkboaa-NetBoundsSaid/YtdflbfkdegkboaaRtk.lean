import Derived.Test.YtdflbfkdegkboaaRsn
namespace Go.Proofs.Ytdflbfkdegkboaa
open Go.RowKit

set_option maxHeartbeats 400000 in
theorem rtake_no {w0 w : World} {g mtu most lost : Nat} {ds : List Rg} {A : Option Addr} {c : Nat} (h : RT w0 w g mtu most lost ds A c) (i : Int) (hi : i < 0 ∨ ds.length ≤ i) :
    Calls Try.prog 14 #[.pointer (some ⟨g, 0, none⟩), .int .i64 i] w (RAt Rg.zero false w) := by
  have H := Lib.hid h
  have HI := Lib.hid hi
  have hu := (Upd.refl w).alloc (F := fun _ => False) (.cells #[.int .i64 0, .int .i64 0, .string ⟨#[]⟩] 42)
  have H1 := Lib.hid (H.out.fresh hu)
  clear h hi hu
  go_enter Try.func14, Try.ntmps14
  go_wp2_with fail
  refine (rat_no H1.out i HI.out).mono ?_
  rintro e w1 ⟨rfl, hf⟩
  unfold Rg.agg Rg.zero
  have hb1 := (Blk.new w 42 #[.int .i64 0, .int .i64 0, .string ⟨#[]⟩]).upd hf (fun h => h)
  have HB := Lib.hid hb1
  have HF := Lib.hid hf
  clear hb1 hf
  have hz := HB.out.lt
  have k0 : ∀ o, (w1.alloc o).cell? ⟨w.heap.size, 0, none⟩ = some (.int .i64 0) := fun o => (HB.out.alloc o).cell 0
  have k1 : ∀ o, (w1.alloc o).cell? ⟨w.heap.size, 1, none⟩ = some (.int .i64 0) := fun o => (HB.out.alloc o).cell 1
  have k2 : ∀ o, (w1.alloc o).cell? ⟨w.heap.size, 2, none⟩ = some (.string ⟨#[]⟩) := fun o => (HB.out.alloc o).cell 2
  have q0 : ∀ o j, (w1.alloc o).frozen? ⟨w.heap.size, j, none⟩ = false := fun o j => (HB.out.alloc o).frozen j
  have j1 : w1.cell? ⟨w.heap.size, 1, none⟩ = some (.int .i64 0) := HB.out.cell 1
  have j2 : w1.cell? ⟨w.heap.size, 2, none⟩ = some (.string ⟨#[]⟩) := HB.out.cell 2
  have p1 := fun j => HB.out.frozen j
  go_wp2_with fail
  have HW := Lib.hid (show Blk ((((w1.setCell ⟨w.heap.size, 0, none⟩ (.int .i64 0)).setCell ⟨w.heap.size, 1, none⟩ (.int .i64 0)).setCell ⟨w.heap.size, 2, none⟩ (.string ⟨#[]⟩)).alloc (.cells #[.int .i64 0, .int .i64 0, .string ⟨#[]⟩] 42)) w.heap.size 42 #[.int .i64 0, .int .i64 0, .string ⟨#[]⟩] by
    simpa using (((HB.out.set_ 0 (.int .i64 0)).set_ 1 (.int .i64 0)).set_ 2 (.string ⟨#[]⟩)).alloc (.cells #[.int .i64 0, .int .i64 0, .string ⟨#[]⟩] 42))
  have HU := Lib.hid (show Fresh w ((((w1.setCell ⟨w.heap.size, 0, none⟩ (.int .i64 0)).setCell ⟨w.heap.size, 1, none⟩ (.int .i64 0)).setCell ⟨w.heap.size, 2, none⟩ (.string ⟨#[]⟩)).alloc (.cells #[.int .i64 0, .int .i64 0, .string ⟨#[]⟩] 42)) from
    ((((((Upd.refl w).alloc _).trans HF.out (fun _ _ h => h)).setCell (fun h => absurd h (Nat.lt_irrefl _)) _).setCell (fun h => absurd h (Nat.lt_irrefl _)) _).setCell (fun h => absurd h (Nat.lt_irrefl _)) _).alloc _)
  generalize (((w1.setCell ⟨w.heap.size, 0, none⟩ (.int .i64 0)).setCell ⟨w.heap.size, 1, none⟩ (.int .i64 0)).setCell ⟨w.heap.size, 2, none⟩ (.string ⟨#[]⟩)).alloc (.cells #[.int .i64 0, .int .i64 0, .string ⟨#[]⟩] 42) = wF at HW HU ⊢
  have z0 : wF.cell? ⟨w.heap.size, 0, none⟩ = some (.int .i64 0) := HW.out.cell 0
  have z1 : wF.cell? ⟨w.heap.size, 1, none⟩ = some (.int .i64 0) := HW.out.cell 1
  have z2 : wF.cell? ⟨w.heap.size, 2, none⟩ = some (.string ⟨#[]⟩) := HW.out.cell 2
  refine bodyPost_ret (v := .tuple #[Rg.zero.agg, .bool false]) (by simp [results, Try.results14, go_sem, Rg.agg, Rg.zero, z0, z1, z2]) rfl ?_
  exact ⟨rfl, HU.out⟩

def RTake (w0 w : World) (g mtu most lost : Nat) (ds : List Rg) (d : Rg) (i : Nat) (A : Option Addr) (e : Ending) (w' : World) : Prop :=
  e = .returned (.tuple #[d.agg, .bool true]) ∧ ∃ A' c', RT w0 w' g mtu most lost (ds.take i ++ ds.drop (i + 1)) A' c' ∧ Upd (fun i => i = g ∨ A.map (·.block) = some i) w w'
/-- Between the new row's making and its storing: nothing old has changed. -/
theorem rtake_mid {w0 w w2 w3 w5 : World} {g mtu most lost g4 g6 : Nat} {ds : List Rg} {d : Rg} {A A3 : Option Addr} {c : Nat} (H2 : RT w0 w2 g mtu most lost ds A c) (HF : Fresh w w2) (h3 : Fresh w2 w3)
    (hb : Blk w2 g4 42 #[.int .i64 0, .int .i64 0, .string ⟨#[]⟩]) (ho : Blk w2 g6 42 #[.int .i64 d.frm, .int .i64 d.to_, .string d.s]) (hA3 : ∀ k, A3.map (·.block) = some k → w2.heap.size ≤ k) (h5 : Upd (fun k => A3.map (·.block) = some k) w3 w5) :
    RT w0 w5 g mtu most lost ds A c ∧ Blk w5 g4 42 #[.int .i64 0, .int .i64 0, .string ⟨#[]⟩] ∧ Blk w5 g6 42 #[.int .i64 d.frm, .int .i64 d.to_, .string d.s] ∧ Fresh w w5 := by
  have hlt : ∀ k, k < w2.heap.size → ¬ A3.map (·.block) = some k := fun k hk e => by have := hA3 k e; omega
  refine ⟨(H2.fresh h3).keep h5 (hlt g H2.blk.lt) (fun k hk => hlt k (owns_lt H2.own (by rw [ownBlock_map]; exact hk))), (hb.upd h3 (fun h => h)).upd h5 (hlt _ hb.lt), (ho.upd h3 (fun h => h)).upd h5 (hlt _ ho.lt), ?_⟩
  exact (HF.trans h3 (fun _ _ h => h)).trans h5 (fun k hk e => by have := hA3 k e; have := HF.size; omega)
theorem rtake_fin {w0 w w6 : World} {g mtu most lost g4 c : Nat} {ds : List Rg} {A A5 : Option Addr} {x y z : Value} (HN : RT w0 w6 g mtu most lost ds A5 c ∧ Upd (fun i => i = g ∨ A.map (·.block) = some i) w w6) (hb : Blk w6 g4 42 #[x, y, z]) (hA : ∀ k, A5.map (·.block) = some k → g4 < k) (hg4 : w.heap.size ≤ g4) (d : Rg) :
    RT w0 (((w6.setCell ⟨g4, 0, none⟩ (.int .i64 d.frm)).setCell ⟨g4, 1, none⟩ (.int .i64 d.to_)).setCell ⟨g4, 2, none⟩ (.string d.s)) g mtu most lost ds A5 c ∧ Upd (fun i => i = g ∨ A.map (·.block) = some i) w (((w6.setCell ⟨g4, 0, none⟩ (.int .i64 d.frm)).setCell ⟨g4, 1, none⟩ (.int .i64 d.to_)).setCell ⟨g4, 2, none⟩ (.string d.s)) ∧
      Blk (((w6.setCell ⟨g4, 0, none⟩ (.int .i64 d.frm)).setCell ⟨g4, 1, none⟩ (.int .i64 d.to_)).setCell ⟨g4, 2, none⟩ (.string d.s)) g4 42 #[.int .i64 d.frm, .int .i64 d.to_, .string d.s] := by
  have hu : Upd (fun i => i = g4) w6 (((w6.setCell ⟨g4, 0, none⟩ (.int .i64 d.frm)).setCell ⟨g4, 1, none⟩ (.int .i64 d.to_)).setCell ⟨g4, 2, none⟩ (.string d.s)) :=
    (((Upd.refl w6).setCell (F := fun i => i = g4) (fun _ => rfl) _).setCell (fun _ => rfl) _).setCell (fun _ => rfl) _
  refine ⟨HN.1.keep hu (fun e => hb.ne_ HN.1.blk (by decide) e.symm) (fun k hk e => by have := hA k hk; omega), HN.2.trans hu (fun i hi e => by omega), ?_⟩
  simpa using ((hb.set_ 0 (.int .i64 d.frm)).set_ 1 (.int .i64 d.to_)).set_ 2 (.string d.s)
set_option maxHeartbeats 800000 in
theorem rtake_yes {w0 w : World} {g mtu most lost : Nat} {ds : List Rg} {A : Option Addr} {c : Nat} (h : RT w0 w g mtu most lost ds A c) (hw : w0.heap.size ≤ w.heap.size) (i : Nat) (hi : i < ds.length) (hmax : ds.length ≤ 1000000) :
    Calls Try.prog 14 #[.pointer (some ⟨g, 0, none⟩), .int .i64 i] w (RTake w0 w g mtu most lost ds ds[i] i A) := by
  obtain ⟨i0, hi0, hz0, hz1, hz2⟩ := info_parts Try.info42
  have HI := Lib.hid hi
  have hu := (Upd.refl w).alloc (F := fun _ => False) (.cells #[.int .i64 0, .int .i64 0, .string ⟨#[]⟩] 42)
  have H1 := Lib.hid (h.fresh hu)
  have hat := rat_yes H1.out i hi hmax
  generalize ds[i] = d at hat ⊢
  have HT := Lib.hid hat
  have HH := Lib.hid h
  clear h hat hu
  go_enter Try.func14, Try.ntmps14
  go_wp2_with fail
  refine HT.out.mono ?_
  rintro e w1 ⟨rfl, hf⟩
  unfold Rg.agg
  have hb1 := (Blk.new w 42 #[.int .i64 0, .int .i64 0, .string ⟨#[]⟩]).upd hf (fun h => h)
  have HB := Lib.hid (hb1.alloc (.cells #[.int .i64 d.frm, .int .i64 d.to_, .string d.s] 42))
  have HO := Lib.hid (Blk.new w1 42 #[.int .i64 d.frm, .int .i64 d.to_, .string d.s])
  have HF := Lib.hid ((((Upd.refl w).alloc (F := fun _ => False) _).trans hf (fun _ _ h => h)).alloc (.cells #[.int .i64 d.frm, .int .i64 d.to_, .string d.s] 42))
  have H2 := Lib.hid ((H1.out.fresh hf).fresh ((Upd.refl w1).alloc (.cells #[.int .i64 d.frm, .int .i64 d.to_, .string d.s] 42)))
  have HG := Lib.hid hb1.lt
  clear hb1 hf
  go_upto_region 4 with fail
  generalize w1.alloc (.cells #[.int .i64 d.frm, .int .i64 d.to_, .string d.s] 42) = w2 at HB HF H2 HO ⊢
  generalize w1.heap.size = g6 at HO HG ⊢
  generalize hg4 : w.heap.size = g4 at HB HG ⊢
  have HG4 := Lib.hid hg4
  clear hg4
  obtain ⟨ga, cap, hv, _, hlt⟩ := HH.out.own.form (by omega)
  injection hv with hA _ hcap
  subst hA
  subst hcap
  have c3 := H2.out.blk.cell 3
  simp only [List.getElem?_toArray, List.getElem?_cons_zero, List.getElem?_cons_succ] at c3
  have hcap := owns_cap H2.out.own
  unfold maxLen at hcap
  obtain ⟨hc1, _, hc2⟩ := hcap
  have HR := Lib.hid ((Reads.of_own H2.out.own).weak (S' := fun _ => True) (fun _ _ => trivial))
  have HP := Lib.hid (show Reads w2 (fun _ => True) 3 (some ⟨ga, 0, none⟩) i (rcells (ds.take i)) by
    have h1 := HR.out.upto (k := i) (by omega)
    rwa [rcells_take] at h1)
  have HS := Lib.hid (HR.out.cut (k := i + 1) (cap := c) (by omega) (by omega))
  rw [rcells_drop] at HS
  have x1 : i ≤ c := by omega
  have x2 : (i : Int) ≤ (c : Int) := by omega
  clear hlt
  by_cases hcc : c = i + 1
  · obtain rfl : c = i + 1 := hcc
    rw [if_pos rfl, show ds.length - (i + 1) = 0 by omega] at HS
    go_upto_region 6 with (first
      | (at_builtin
         refine wpList_append_any _ rfl (.tmp 16) (.tmp 22) 46 rfl 42 i0 _ 3 32 Try.underlying46 hi0 hz0 hz1 hz2 rfl (by omega) (.slice none 0 0) 0 [] rfl
           ⟨by simp, .inl ⟨rfl, rfl⟩⟩ (fun _ => True) (some ⟨ga, 0, none⟩) i (i + 1) (rcells (ds.take i)) rfl HP.out (rcells_one _) (by unfold maxLen; omega) (by omega) ?_
         intro A3 d3 w3 hown3 hg3 hat3
         simp only [Nat.zero_add, List.nil_append] at hown3 hat3 ⊢
         have hu3 : Fresh w2 w3 := (Upd.refl w2).grown hg3 (fun i hi => by simp [Value.ownBlock] at hi)
         have H3 := Lib.hid (H2.out.fresh hu3)
         have k3 := H3.out.blk.cell 3
         simp only [List.getElem?_toArray, List.getElem?_cons_zero, List.getElem?_cons_succ] at k3
         have HU3 := Lib.hid hu3
         have HO3 := Lib.hid hown3
         have HA3 := Lib.hid (show ∀ k, A3.map (·.block) = some k → w2.heap.size ≤ k by
           intro k hk
           have hsz := HF.out.size
           rcases hat3 with h | h <;> rw [ownBlock_map, hk] at h
           · simp [Value.ownBlock] at h
           · injection h with h; omega)
         clear hown3 hat3 hg3 hu3)
      | (at_builtin
         refine wpList_append_any _ rfl (.tmp 25) (.tmp 32) 46 rfl 42 i0 _ 3 32 Try.underlying46 hi0 hz0 hz1 hz2 rfl (by omega) (.slice A3 i d3) i (rcells (ds.take i)) rfl
           HO3.out (fun _ => True) (some ⟨ga, 0, none⟩) 0 _ (rcells (ds.drop (i + 1))) rfl (HS.out.upd HU3.out (fun _ _ h => h)) (rcells_one _) (by unfold maxLen; omega) (by omega) ?_
         intro A5 d5 w5 hown5 hg5 hat5
         simp only [Nat.add_zero] at hown5 hat5 ⊢
         have hu5 : Upd (fun k => A3.map (·.block) = some k) w3 w5 := (Upd.refl w3).grown hg5 (fun i hi _ => by rw [ownBlock_map] at hi; exact hi)
         have HE := Lib.hid (rtake_mid H2.out HF.out HU3.out HB.out HO.out HA3.out hu5)
         have HAA := Lib.hid (show ∀ k, A5.map (·.block) = some k → w2.heap.size ≤ k by
           intro k hk
           have hsz := HF.out.size
           have hsz2 := HU3.out.size
           rcases hat5 with h | h <;> rw [ownBlock_map, hk] at h
           · have := HA3.out k (by rw [ownBlock_map] at h; exact h.symm); omega
           · injection h with h; omega)
         have k5 := HE.out.1.blk.cell 3
         have q5 := HE.out.1.blk.frozen 3
         simp only [List.getElem?_toArray, List.getElem?_cons_zero, List.getElem?_cons_succ] at k5
         have HO5 := Lib.hid hown5
         have HU5 := Lib.hid hu5
         clear hown5 hat5 hg5 hu5))
    have HN := Lib.hid (rset_end (n2 := i) (ds2 := ds.take i ++ ds.drop (i + 1)) HH.out hw HE.out.2.2.2 (by rw [List.length_append, List.length_take, List.length_drop]; omega) (by rw [rcells_append]; exact HO5.out) (Upd.refl _) (fun k hk => .inr (by have := HAA.out k hk; have := HF.out.size; omega)))
    have HB6 := Lib.hid (HE.out.2.1.far (p := ⟨g, 3, none⟩) (fun e => HE.out.2.1.ne_ HE.out.1.blk (by decide) e) (.slice A5 i d5))
    have HO6 := Lib.hid (HE.out.2.2.1.far (p := ⟨g, 3, none⟩) (fun e => HE.out.2.2.1.ne_ HE.out.1.blk (by decide) e) (.slice A5 i d5))
    have HGA := Lib.hid (show ∀ k, A5.map (·.block) = some k → g4 < k from fun k hk => by have := HAA.out k hk; have := HB.out.lt; omega)
    generalize w5.setCell ⟨g, 3, none⟩ (.slice A5 i d5) = w6 at HN HB6 HO6 ⊢
    clear HO5 HU5 HE k5 q5 HAA HB HO H1 H2 H3 HF HU3 HO3 HA3 HR HP HS c3 k3
    have o0 : w6.cell? ⟨g6, 0, none⟩ = some (.int .i64 d.frm) := HO6.out.cell 0
    have o1 : w6.cell? ⟨g6, 1, none⟩ = some (.int .i64 d.to_) := HO6.out.cell 1
    have o2 : w6.cell? ⟨g6, 2, none⟩ = some (.string d.s) := HO6.out.cell 2
    have b0 : w6.cell? ⟨g4, 0, none⟩ = some (.int .i64 0) := HB6.out.cell 0
    have b1 : w6.cell? ⟨g4, 1, none⟩ = some (.int .i64 0) := HB6.out.cell 1
    have b2 : w6.cell? ⟨g4, 2, none⟩ = some (.string ⟨#[]⟩) := HB6.out.cell 2
    have bf := fun j => HB6.out.frozen j
    go_wp2_with fail
    have HZ := rtake_fin HN.out HB6.out HGA.out (Nat.le_of_eq HG4.out) d
    generalize ((w6.setCell ⟨g4, 0, none⟩ (.int .i64 d.frm)).setCell ⟨g4, 1, none⟩ (.int .i64 d.to_)).setCell ⟨g4, 2, none⟩ (.string d.s) = wF at HZ ⊢
    obtain ⟨z1, z2, z3⟩ := HZ
    have y0 : wF.cell? ⟨g4, 0, none⟩ = some (.int .i64 d.frm) := z3.cell 0
    have y1 : wF.cell? ⟨g4, 1, none⟩ = some (.int .i64 d.to_) := z3.cell 1
    have y2 : wF.cell? ⟨g4, 2, none⟩ = some (.string d.s) := z3.cell 2
    refine bodyPost_ret (v := .tuple #[d.agg, .bool true]) (by simp [results, Try.results14, go_sem, Rg.agg, y0, y1, y2]) rfl ?_
    exact ⟨rfl, _, _, z1, z2⟩
  · rw [if_neg hcc, show (some (⟨ga, 0, none⟩ : Addr)).map (·.add ((i + 1) * 3)) = some ⟨ga, (i + 1) * 3, none⟩ by simp [Addr.add]] at HS
    go_upto_region 6 with (first
      | (at_builtin
         refine wpList_append_any _ rfl (.tmp 16) (.tmp 22) 46 rfl 42 i0 _ 3 32 Try.underlying46 hi0 hz0 hz1 hz2 rfl (by omega) (.slice none 0 0) 0 [] rfl
           ⟨by simp, .inl ⟨rfl, rfl⟩⟩ (fun _ => True) (some ⟨ga, 0, none⟩) i c (rcells (ds.take i)) rfl HP.out (rcells_one _) (by unfold maxLen; omega) (by omega) ?_
         intro A3 d3 w3 hown3 hg3 hat3
         simp only [Nat.zero_add, List.nil_append] at hown3 hat3 ⊢
         have hu3 : Fresh w2 w3 := (Upd.refl w2).grown hg3 (fun i hi => by simp [Value.ownBlock] at hi)
         have H3 := Lib.hid (H2.out.fresh hu3)
         have k3 := H3.out.blk.cell 3
         simp only [List.getElem?_toArray, List.getElem?_cons_zero, List.getElem?_cons_succ] at k3
         have HU3 := Lib.hid hu3
         have HO3 := Lib.hid hown3
         have HA3 := Lib.hid (show ∀ k, A3.map (·.block) = some k → w2.heap.size ≤ k by
           intro k hk
           have hsz := HF.out.size
           rcases hat3 with h | h <;> rw [ownBlock_map, hk] at h
           · simp [Value.ownBlock] at h
           · injection h with h; omega)
         clear hown3 hat3 hg3 hu3)
      | (at_builtin
         refine wpList_append_any _ rfl (.tmp 25) (.tmp 32) 46 rfl 42 i0 _ 3 32 Try.underlying46 hi0 hz0 hz1 hz2 rfl (by omega) (.slice A3 i d3) i (rcells (ds.take i)) rfl
           HO3.out (fun _ => True) (some ⟨ga, (i + 1) * 3, none⟩) (ds.length - (i + 1)) _ (rcells (ds.drop (i + 1))) rfl (HS.out.upd HU3.out (fun _ _ h => h)) (rcells_one _) (by unfold maxLen; omega) (by omega) ?_
         intro A5 d5 w5 hown5 hg5 hat5
         have hu5 : Upd (fun k => A3.map (·.block) = some k) w3 w5 := (Upd.refl w3).grown hg5 (fun i hi _ => by rw [ownBlock_map] at hi; exact hi)
         have HE := Lib.hid (rtake_mid H2.out HF.out HU3.out HB.out HO.out HA3.out hu5)
         have HAA := Lib.hid (show ∀ k, A5.map (·.block) = some k → w2.heap.size ≤ k by
           intro k hk
           have hsz := HF.out.size
           have hsz2 := HU3.out.size
           rcases hat5 with h | h <;> rw [ownBlock_map, hk] at h
           · have := HA3.out k (by rw [ownBlock_map] at h; exact h.symm); omega
           · injection h with h; omega)
         have k5 := HE.out.1.blk.cell 3
         have q5 := HE.out.1.blk.frozen 3
         simp only [List.getElem?_toArray, List.getElem?_cons_zero, List.getElem?_cons_succ] at k5
         have HO5 := Lib.hid hown5
         have HU5 := Lib.hid hu5
         clear hown5 hat5 hg5 hu5))
    have HN := Lib.hid (rset_end (n2 := i + (ds.length - (i + 1))) (ds2 := ds.take i ++ ds.drop (i + 1)) HH.out hw HE.out.2.2.2 (by rw [List.length_append, List.length_take, List.length_drop]; omega) (by rw [rcells_append]; exact HO5.out) (Upd.refl _) (fun k hk => .inr (by have := HAA.out k hk; have := HF.out.size; omega)))
    have HB6 := Lib.hid (HE.out.2.1.far (p := ⟨g, 3, none⟩) (fun e => HE.out.2.1.ne_ HE.out.1.blk (by decide) e) (.slice A5 (i + (ds.length - (i + 1))) d5))
    have HO6 := Lib.hid (HE.out.2.2.1.far (p := ⟨g, 3, none⟩) (fun e => HE.out.2.2.1.ne_ HE.out.1.blk (by decide) e) (.slice A5 (i + (ds.length - (i + 1))) d5))
    have HGA := Lib.hid (show ∀ k, A5.map (·.block) = some k → g4 < k from fun k hk => by have := HAA.out k hk; have := HB.out.lt; omega)
    generalize w5.setCell ⟨g, 3, none⟩ (.slice A5 (i + (ds.length - (i + 1))) d5) = w6 at HN HB6 HO6 ⊢
    clear HO5 HU5 HE k5 q5 HAA HB HO H1 H2 H3 HF HU3 HO3 HA3 HR HP HS c3 k3
    have o0 : w6.cell? ⟨g6, 0, none⟩ = some (.int .i64 d.frm) := HO6.out.cell 0
    have o1 : w6.cell? ⟨g6, 1, none⟩ = some (.int .i64 d.to_) := HO6.out.cell 1
    have o2 : w6.cell? ⟨g6, 2, none⟩ = some (.string d.s) := HO6.out.cell 2
    have b0 : w6.cell? ⟨g4, 0, none⟩ = some (.int .i64 0) := HB6.out.cell 0
    have b1 : w6.cell? ⟨g4, 1, none⟩ = some (.int .i64 0) := HB6.out.cell 1
    have b2 : w6.cell? ⟨g4, 2, none⟩ = some (.string ⟨#[]⟩) := HB6.out.cell 2
    have bf := fun j => HB6.out.frozen j
    go_wp2_with fail
    have HZ := rtake_fin HN.out HB6.out HGA.out (Nat.le_of_eq HG4.out) d
    generalize ((w6.setCell ⟨g4, 0, none⟩ (.int .i64 d.frm)).setCell ⟨g4, 1, none⟩ (.int .i64 d.to_)).setCell ⟨g4, 2, none⟩ (.string d.s) = wF at HZ ⊢
    obtain ⟨z1, z2, z3⟩ := HZ
    have y0 : wF.cell? ⟨g4, 0, none⟩ = some (.int .i64 d.frm) := z3.cell 0
    have y1 : wF.cell? ⟨g4, 1, none⟩ = some (.int .i64 d.to_) := z3.cell 1
    have y2 : wF.cell? ⟨g4, 2, none⟩ = some (.string d.s) := z3.cell 2
    refine bodyPost_ret (v := .tuple #[d.agg, .bool true]) (by simp [results, Try.results14, go_sem, Rg.agg, y0, y1, y2]) rfl ?_
    exact ⟨rfl, _, _, z1, z2⟩

/-! ### Twice -/
def RNo2 (w : World) (v : Value) (e : Ending) (w' : World) : Prop := e = .returned v ∧ Fresh w w'
set_option maxHeartbeats 400000 in
theorem rtwice_no {w0 w : World} {g mtu most lost : Nat} {ds : List Rg} {A : Option Addr} {c : Nat} (h : RT w0 w g mtu most lost ds A c) (i : Int) (hi : i < 0 ∨ ds.length ≤ i ∨ most ≤ ds.length) (hmax : ds.length ≤ 1000000) :
    Calls Try.prog 16 #[.pointer (some ⟨g, 0, none⟩), .int .i64 i] w (RNo2 w (.bool false)) := by
  have H := Lib.hid h
  by_cases h1 : i < 0 ∨ ds.length ≤ i
  · have H1 := Lib.hid h1
    clear h1 hi h
    go_enter Try.func16, Try.ntmps16
    go_wp2_with fail
    refine (rat_no H.out i H1.out).mono ?_
    rintro e w1 ⟨rfl, hf⟩
    unfold Rg.agg Rg.zero
    have HF := Lib.hid hf
    clear hf
    go_wp2_with fail
    go_quiet (fail)
    go_wp2_with fail
    go_ret
    exact ⟨rfl, (HF.out.alloc _).drewN _⟩
  · obtain ⟨k, rfl⟩ := Int.eq_ofNat_of_zero_le (show 0 ≤ i by omega)
    have hk : k < ds.length := by omega
    have hm : most ≤ ds.length := by omega
    have ht := rat_yes h k hk hmax
    generalize ds[k] = d at ht
    have HT := Lib.hid ht
    clear h1 hi h ht
    go_enter Try.func16, Try.ntmps16
    go_wp2_with fail
    refine HT.out.mono ?_
    rintro e w1 ⟨rfl, hf⟩
    unfold Rg.agg
    have HF := Lib.hid hf
    have H1 := Lib.hid ((H.out.fresh hf).fresh ((Upd.refl w1).alloc (.cells #[.int .i64 d.frm, .int .i64 d.to_, .string d.s] 42)))
    have c1 := H1.out.blk.cell 1
    have c3 := H1.out.blk.cell 3
    simp only [List.getElem?_toArray, List.getElem?_cons_zero, List.getElem?_cons_succ] at c1 c3
    have dm : decide ((most : Int) ≤ ds.length) = true := by simp; omega
    clear hf
    go_upto_region 2 with fail
    have HU := Lib.hid (HF.out.alloc (.cells #[.int .i64 d.frm, .int .i64 d.to_, .string d.s] 42))
    generalize w1.alloc (.cells #[.int .i64 d.frm, .int .i64 d.to_, .string d.s] 42) = w2 at *
    go_quiet (fail)
    go_wp2_with fail
    go_ret
    exact ⟨rfl, HU.out.drewN _⟩
set_option maxHeartbeats 800000 in
theorem rtwice_yes {w0 w : World} {g mtu most lost : Nat} {ds : List Rg} {A : Option Addr} {c : Nat} (h : RT w0 w g mtu most lost ds A c) (hw : w0.heap.size ≤ w.heap.size) (i : Nat) (hi : i < ds.length) (hm : ds.length < most) (hmost : most ≤ 1000) :
    Calls Try.prog 16 #[.pointer (some ⟨g, 0, none⟩), .int .i64 i] w (RYes (.bool true) w0 w g mtu most lost ds A ds[i]) := by
  obtain ⟨i0, hi0, hz0, hz1, hz2⟩ := info_parts Try.info42
  have H := Lib.hid h
  have ht := rat_yes h i hi (by omega)
  generalize ds[i] = d at ht ⊢
  have HT := Lib.hid ht
  clear h ht
  go_enter Try.func16, Try.ntmps16
  go_wp2_with fail
  refine HT.out.mono ?_
  rintro e w1 ⟨rfl, hf⟩
  unfold Rg.agg
  have HF := Lib.hid hf
  have H1 := Lib.hid ((H.out.fresh hf).fresh ((Upd.refl w1).alloc (.cells #[.int .i64 d.frm, .int .i64 d.to_, .string d.s] 42)))
  have HO := Lib.hid (Blk.new w1 42 #[.int .i64 d.frm, .int .i64 d.to_, .string d.s])
  have c1 := H1.out.blk.cell 1
  have c3 := H1.out.blk.cell 3
  have o0 := HO.out.cell 0
  have o1 := HO.out.cell 1
  have o2 := HO.out.cell 2
  simp only [List.getElem?_toArray, List.getElem?_cons_zero, List.getElem?_cons_succ] at c1 c3 o0 o1 o2
  have dm : decide ((most : Int) ≤ ds.length) = false := by simp; omega
  clear hf
  go_upto_region 2 with fail
  have HU := Lib.hid (HF.out.alloc (.cells #[.int .i64 d.frm, .int .i64 d.to_, .string d.s] 42))
  generalize w1.alloc (.cells #[.int .i64 d.frm, .int .i64 d.to_, .string d.s] 42) = w2 at *
  generalize w1.heap.size = g5 at *
  have hlt := H1.out.blk.lt
  have c3a : ∀ (n : Nat) (o : Obj), ((w2.drewN n).alloc o).cell? ⟨g, 3, none⟩ = some (.slice A ds.length c) := fun n o => (World.cell?_alloc_lt (w2.drewN n) o ⟨g, 3, none⟩ hlt).trans c3
  go_quiet (fail)
  go_wp2_with fail
  go_region_law (first
    | (go_must (refine step_append_any _ rfl (.tmp 31) (.tmp 33) 46 rfl 42 i0 _ 3 32 Try.underlying46 hi0 hz0 hz1 hz2 rfl (by omega) (.slice A ds.length c) ds.length (rcells ds) rfl ((owns_upd H1.out.own ((Upd.refl w2).drewN (nq + 1)) (fun _ _ h => h)).alloc _) (fun _ => True) (some ⟨w2.heap.size, 0, none⟩) 1 1 _ rfl (reads_new (w2.drewN (nq + 1)) _ 42 3 1 rfl) (by simp [Value.oneCell']) (by unfold maxLen; omega) (by omega) ?_)
       intro A2 d2 w3 hown2 hg2 hat2
       have hb2 := ((H1.out.blk.drewN (nq + 1)).alloc _).grown hg2 (fun e => own_blk_ne H1.out.own H1.out.blk (by decide) e.symm)
       have k3 := hb2.cell 3
       have q3 := hb2.frozen 3
       simp only [List.getElem?_toArray, List.getElem?_cons_zero, List.getElem?_cons_succ] at k3
       have Ho := Lib.hid hown2
       have Hg := Lib.hid hg2
       have Ha := Lib.hid hat2
       clear hown2 hg2 hat2 hb2))
  all_goals go_wp2
  all_goals go_ret
  all_goals exact ryes_end H.out hw (HU.out.drewN _) _ Ho.out Hg.out Ha.out
end Go.Proofs.Ytdflbfkdegkboaa
