import Derived.Test.YtdflbfkdegkboaaTk
namespace Go.Proofs.Ytdflbfkdegkboaa
open Go.RowKit

/-! ### The document's own net -/
structure Rg where
  frm : Int
  to_ : Int
  s : ByteArray
def Rg.cells (d : Rg) : List Value := [.int .i64 d.frm, .int .i64 d.to_, .string d.s]
def rcells (ds : List Rg) : List Value := ds.flatMap Rg.cells
theorem rcells_length (ds : List Rg) : (rcells ds).length = ds.length * 3 := by
  induction ds with
  | nil => rfl
  | cons d ds ih => simp only [rcells, List.flatMap_cons, List.length_append, List.length_cons] at ih ⊢; rw [ih]; simp [Rg.cells]; omega
theorem rcells_append (a b : List Rg) : rcells (a ++ b) = rcells a ++ rcells b := by simp [rcells]
theorem rcells_one (ds : List Rg) : ∀ u ∈ rcells ds, u.oneCell' = true := by
  intro u hu
  obtain ⟨d, _, h⟩ := List.mem_flatMap.1 hu
  simp [Rg.cells] at h
  rcases h with rfl | rfl | rfl <;> rfl
theorem rcells_drop (ds : List Rg) (i : Nat) : (rcells ds).drop (i * 3) = rcells (ds.drop i) := by
  induction ds generalizing i with
  | nil => simp [rcells]
  | cons d ds ih =>
    rcases i with _ | i
    · simp
    · have e : rcells (d :: ds) = Rg.cells d ++ rcells ds := by simp [rcells]
      rw [e, show (i + 1) * 3 = 3 + i * 3 by omega, ← List.drop_drop]
      have : (d.cells ++ rcells ds).drop 3 = rcells ds := by simp [Rg.cells]
      rw [this, ih]
      rfl
theorem rcells_take (ds : List Rg) (i : Nat) : (rcells ds).take (i * 3) = rcells (ds.take i) := by
  induction ds generalizing i with
  | nil => simp [rcells]
  | cons d ds ih =>
    rcases i with _ | i
    · simp [rcells]
    · have e : rcells (d :: ds) = Rg.cells d ++ rcells ds := by simp [rcells]
      have e2 : rcells (d :: ds.take i) = Rg.cells d ++ rcells (ds.take i) := by simp [rcells]
      rw [e, List.take_succ_cons, e2, ← ih i]
      simp [Rg.cells, show (i + 1) * 3 = i * 3 + 1 + 1 + 1 by omega]

structure RT (w0 w : World) (g : Nat) (mtu most lost : Nat) (ds : List Rg) (A : Option Addr) (c : Nat) : Prop where
  blk : Blk w g 48 #[.int .i64 mtu, .int .i64 most, .int .i64 lost, .slice A ds.length c]
  own : w.ownsRow 0 42 3 (.slice A ds.length c) ds.length (rcells ds)
  hg : w0.heap.size ≤ g
  ha : AB w0 A
section
variable {F : Nat → Prop} {w0 w w' : World} {g mtu most lost : Nat} {ds : List Rg} {A : Option Addr} {c : Nat}
theorem RT.keep (h : RT w0 w g mtu most lost ds A c) (hu : Upd F w w') (h1 : ¬ F g) (h2 : ∀ k, A.map (·.block) = some k → ¬ F k) : RT w0 w' g mtu most lost ds A c :=
  ⟨h.blk.upd hu h1, owns_upd h.own hu (by rw [ownBlock_map]; exact h2), h.hg, h.ha⟩
theorem RT.fresh (h : RT w0 w g mtu most lost ds A c) (hu : Fresh w w') : RT w0 w' g mtu most lost ds A c := h.keep hu (fun h => h) (fun _ _ h => h)
end
set_option maxHeartbeats 800000 in
theorem rnew_yes (mtu most : Nat) (w : World) (h1 : 64 ≤ mtu) (h2 : mtu ≤ 1500) (h3 : 1 ≤ most) (h4 : most ≤ 1000) :
    Calls Try.prog 12 #[.int .i64 mtu, .int .i64 most] w fun e w' => e = .returned (.tuple #[.pointer (some ⟨w.heap.size, 0, none⟩), .int .i64 0]) ∧ RT w w' w.heap.size mtu most 0 [] none 0 ∧ Fresh w w' := by
  go_enter Try.func12, Try.ntmps12
  go_wp2
  go_ret2
  exact ⟨rfl, ⟨Blk.new _ _ _, World.ownsRow_nil _ _ _ _, Nat.le_refl _, AB.none_ _⟩, (Upd.refl w).alloc _⟩
set_option maxHeartbeats 800000 in
theorem rnew_no (mtu most : Int) (w : World) (h : mtu < 64 ∨ 1500 < mtu ∨ most < 1 ∨ 1000 < most) :
    Calls Try.prog 12 #[.int .i64 mtu, .int .i64 most] w fun e w' => e = .returned (.tuple #[.pointer none, .int .i64 1]) ∧ w = w' := by
  by_cases a1 : mtu < 64
  · go_enter Try.func12, Try.ntmps12
    go_wp2
    go_ret2
    exact ⟨rfl, rfl⟩
  by_cases a2 : 1500 < mtu
  · go_enter Try.func12, Try.ntmps12
    go_wp2
    go_ret2
    exact ⟨rfl, rfl⟩
  by_cases a3 : most < 1
  · go_enter Try.func12, Try.ntmps12
    go_wp2
    go_ret2
    exact ⟨rfl, rfl⟩
  have a4 : 1000 < most := by omega
  go_enter Try.func12, Try.ntmps12
  go_wp2
  go_ret2
  exact ⟨rfl, rfl⟩

theorem Try.info42 : (Try.prog.info? 42).map (fun i => (i.zero, i.size, i.bytes)) = some (some (.agg #[.int .i64 0, .int .i64 0, .string ⟨#[]⟩]), 3, 32) := by kernel_rfl
def RNo (w0 w : World) (g mtu most lost : Nat) (ds : List Rg) (A : Option Addr) (c : Nat) (k : Int) (e : Ending) (w' : World) : Prop :=
  e = .returned (.int .i64 k) ∧ RT w0 w' g mtu most lost ds A c ∧ Upd (fun i => i = g) w w'
set_option maxHeartbeats 400000 in
theorem rsend_arg {w0 w : World} {g mtu most lost : Nat} {ds : List Rg} {A : Option Addr} {c : Nat} (h : RT w0 w g mtu most lost ds A c) (from_ to_ : Int) (v : Value) (hn : from_ < 0 ∨ to_ < 0) :
    Calls Try.prog 13 #[.pointer (some ⟨g, 0, none⟩), .int .i64 from_, .int .i64 to_, v] w (RNo w0 w g mtu most lost ds A c 1) := by
  have H := Lib.hid h
  clear h
  by_cases h1 : from_ < 0
  · go_enter Try.func13, Try.ntmps13
    go_wp2
    go_ret
    exact ⟨rfl, H.out, Upd.refl _⟩
  · have h2 : to_ < 0 := by omega
    go_enter Try.func13, Try.ntmps13
    go_wp2
    go_ret
    exact ⟨rfl, H.out, Upd.refl _⟩
set_option maxHeartbeats 400000 in
theorem rsend_long {w0 w : World} {g mtu most lost : Nat} {ds : List Rg} {A : Option Addr} {c : Nat} (h : RT w0 w g mtu most lost ds A c) (from_ to_ : Int) (s : ByteArray) (h1 : 0 ≤ from_) (h2 : 0 ≤ to_) (h3 : mtu < s.size) :
    Calls Try.prog 13 #[.pointer (some ⟨g, 0, none⟩), .int .i64 from_, .int .i64 to_, .string s] w (RNo w0 w g mtu most lost ds A c 2) := by
  have H := Lib.hid h
  have c0 := h.blk.cell 0
  simp only [List.getElem?_toArray, List.getElem?_cons_zero] at c0
  clear h
  go_enter Try.func13, Try.ntmps13
  go_wp2
  go_ret
  exact ⟨rfl, H.out, Upd.refl _⟩
theorem RT.lost_ {w0 w : World} {g mtu most lost : Nat} {ds : List Rg} {A : Option Addr} {c : Nat} (h : RT w0 w g mtu most lost ds A c) (k : Nat) : RT w0 (w.setCell ⟨g, 2, none⟩ (.int .i64 (k : Int))) g mtu most k ds A c := by
  have hu : Upd (fun i => i = g) w (w.setCell ⟨g, 2, none⟩ (.int .i64 (k : Int))) := upd_set w ⟨g, 2, none⟩ _
  exact ⟨by simpa using h.blk.set_ 2 (.int .i64 (k : Int)), owns_upd h.own hu (fun i hi e => own_blk_ne h.own h.blk (by decide) (by rw [hi, e])), h.hg, h.ha⟩
set_option maxHeartbeats 400000 in
theorem rsend_full {w0 w : World} {g mtu most lost : Nat} {ds : List Rg} {A : Option Addr} {c : Nat} (h : RT w0 w g mtu most lost ds A c) (from_ to_ : Int) (s : ByteArray) (h1 : 0 ≤ from_) (h2 : 0 ≤ to_) (h3 : s.size ≤ mtu) (h5 : most ≤ ds.length) (h6 : lost ≤ 1000000) :
    Calls Try.prog 13 #[.pointer (some ⟨g, 0, none⟩), .int .i64 from_, .int .i64 to_, .string s] w (RNo w0 w g mtu most (lost + 1) ds A c 60) := by
  have H := Lib.hid h
  have c0 := h.blk.cell 0
  have c1 := h.blk.cell 1
  have c2 := h.blk.cell 2
  have c3 := h.blk.cell 3
  have f2 := h.blk.frozen 2
  simp only [List.getElem?_toArray, List.getElem?_cons_zero, List.getElem?_cons_succ] at c0 c1 c2 c3
  clear h
  go_enter Try.func13, Try.ntmps13
  go_wp2
  go_quiet (fail)
  go_wp2
  go_ret
  have h9 := (H.out.fresh ((Upd.refl w).drewN nq)).lost_ (lost + 1)
  rw [show ((lost + 1 : Nat) : Int) = (lost : Int) + 1 by omega] at h9
  exact ⟨rfl, h9, Upd.setCell (F := fun i => i = g) (p := ⟨g, 2, none⟩) ((Upd.refl w).drewN nq) (fun _ => rfl) _⟩
end Go.Proofs.Ytdflbfkdegkboaa
