/-
  Words for the walks over memory: a world that has changed at known blocks alone, a block known whole, a slice that reads as a list, a slice of bytes of the call's own, append onto it. No program.
-/
import Derived.WalkKit
import Derived.WalkSpells
import Derived.WalkLawsBesides
import Derived.Laws.OwnMore
import Derived.Deep.Draws
import Derived.Deep.AppendLies
import Derived.Maps.AppendAt
import Derived.RegionTactic
import Derived.OwnWalk
import Derived.Deep.RegionHeld3
import Derived.Deep.RegionLaw
import Derived.Deep.QuietTactic
import Derived.BigQuiet
import Derived.Deep.LoopGhost
import Derived.Deep.DeepCutAuto
import Derived.Lib.Hide
import Derived.KernelRfl
namespace Go.Proofs.Ytiiolpchefldlaa
open Go.RowKit

/-! ### 1. What has changed -/
/-- At blocks of F, and at new ones, alone has the world changed. -/
structure Upd (F : Nat → Prop) (w w' : World) : Prop where
  os : w'.os = w.os
  tape : w'.tape = w.tape
  output : w'.output = w.output
  size : w.heap.size ≤ w'.heap.size
  block : ∀ k, k < w.heap.size → ¬ F k → w'.heap[k]? = w.heap[k]?

section
variable {F G : Nat → Prop} {a w w' w'' : World}
theorem Upd.refl (w : World) : Upd F w w := ⟨rfl, rfl, rfl, Nat.le_refl _, fun _ _ _ => rfl⟩
theorem Upd.mono (h : Upd F w w') (hs : ∀ k, F k → G k) : Upd G w w' := ⟨h.os, h.tape, h.output, h.size, fun k hk hn => h.block k hk fun hf => hn (hs k hf)⟩
/-- Two steps; the second may change what the first did, and what is new since the first began. -/
theorem Upd.trans (h : Upd F a w) (k : Upd G w w') (hs : ∀ i, i < a.heap.size → G i → F i) : Upd F a w' :=
  ⟨k.os.trans h.os, k.tape.trans h.tape, k.output.trans h.output, Nat.le_trans h.size k.size, fun i hi hn => (k.block i (Nat.lt_of_lt_of_le hi h.size) fun hg => hn (hs i hi hg)).trans (h.block i hi hn)⟩
theorem Upd.drew (h : Upd F a w) : Upd F a w.drew := ⟨h.os, h.tape, h.output, h.size, h.block⟩
theorem Upd.drewN (h : Upd F a w) (n : Nat) : Upd F a (w.drewN n) := ⟨h.os, h.tape, h.output, h.size, h.block⟩
theorem Upd.alloc (h : Upd F a w) (o : Obj) : Upd F a (w.alloc o) :=
  ⟨h.os, h.tape, h.output, Nat.le_trans h.size (by simp), fun i hi hn => (Below.heap_alloc w o i (Nat.lt_of_lt_of_le hi h.size)).trans (h.block i hi hn)⟩
theorem Upd.setCell (h : Upd F a w) {p : Addr} (hp : p.block < a.heap.size → F p.block) (u : Value) : Upd F a (w.setCell p u) :=
  ⟨h.os, h.tape, h.output, by simpa [World.setCell] using h.size, fun i hi hn => (Below.heap_setCell w p u i (by rintro rfl; exact hn (hp hi))).trans (h.block i hi hn)⟩
theorem Upd.grown (h : Upd F a w) {row : Option Nat} (hg : w.grownBy w' row) (hr : ∀ g, row = some g → g < a.heap.size → F g) : Upd F a w' :=
  ⟨hg.os.trans h.os, hg.tape.trans h.tape, hg.output.trans h.output, Nat.le_trans h.size hg.size, fun i hi hn =>
    (hg.block i (Nat.lt_of_lt_of_le hi h.size) fun e => hn (hr i e.symm hi)).trans (h.block i hi hn)⟩
theorem Upd.of_below (h : Below w.heap.size w w') : Upd F w w' := ⟨h.os, h.tape, h.output, h.size, fun k hk _ => h.block k hk⟩
theorem Upd.below {B : Nat} (h : Upd F w w') (hB : B ≤ w.heap.size) (hs : ∀ k, F k → B ≤ k) : Below B w w' :=
  ⟨h.os, h.tape, h.output, h.size, fun k hk => h.block k (by omega) fun hf => by have := hs k hf; omega⟩
theorem Upd.cell (h : Upd F w w') {p : Addr} (hp : p.block < w.heap.size) (hn : ¬ F p.block) : w'.cell? p = w.cell? p := World.cell?_of_block (h.block _ hp hn)
theorem Upd.frozen (h : Upd F w w') {p : Addr} (hp : p.block < w.heap.size) (hn : ¬ F p.block) : w'.frozen? p = w.frozen? p := World.frozen?_of_block (h.block _ hp hn)
end

/-- No block that was there has changed. -/
abbrev Fresh (w w' : World) : Prop := Upd (fun _ => False) w w'
theorem Fresh.to {F : Nat → Prop} {w w' : World} (h : Fresh w w') : Upd F w w' := h.mono fun _ hf => hf.elim

/-! ### 2. A block known whole -/
def Blk (w : World) (g : Nat) (t : TypeId) (cs : Array Value) : Prop := w.heap[g]? = some (.cells cs t (0, 0))

section
variable {F : Nat → Prop} {w w' : World} {g : Nat} {t : TypeId} {cs : Array Value}
theorem Blk.lt (h : Blk w g t cs) : g < w.heap.size := by
  rcases Nat.lt_or_ge g w.heap.size with hlt | hge
  · exact hlt
  · unfold Blk at h; rw [Array.getElem?_eq_none hge] at h; cases h
theorem Blk.cell (h : Blk w g t cs) (i : Nat) : w.cell? ⟨g, i, none⟩ = cs[i]? := cell_of_row w g i cs t (0, 0) h
theorem Blk.frozen (h : Blk w g t cs) (i : Nat) : w.frozen? ⟨g, i, none⟩ = false := by
  unfold Blk at h
  simp [World.frozen?, h]
theorem Blk.new (w : World) (t : TypeId) (cs : Array Value) : Blk (w.alloc (.cells cs t)) w.heap.size t cs := heap_alloc_new w _
theorem Blk.drew (h : Blk w g t cs) : Blk w.drew g t cs := h
theorem Blk.drewN (h : Blk w g t cs) (n : Nat) : Blk (w.drewN n) g t cs := h
theorem Blk.alloc (h : Blk w g t cs) (o : Obj) : Blk (w.alloc o) g t cs := (Below.heap_alloc w o g h.lt).trans h
theorem Blk.set_ (h : Blk w g t cs) (i : Nat) (u : Value) : Blk (w.setCell ⟨g, i, none⟩ u) g t (cs.setIfInBounds i u) := by
  unfold Blk at h ⊢
  simp [World.setCell, Array.getElem?_modify, h]
theorem Blk.far (h : Blk w g t cs) {p : Addr} (hp : g ≠ p.block) (u : Value) : Blk (w.setCell p u) g t cs := (Below.heap_setCell w p u g hp).trans h
theorem Blk.upd (h : Blk w g t cs) (hu : Upd F w w') (hn : ¬ F g) : Blk w' g t cs := (hu.block g h.lt hn).trans h
theorem Blk.grown {row : Option Nat} (h : Blk w g t cs) (hb : w.grownBy w' row) (hg : some g ≠ row) : Blk w' g t cs := (hb.block g h.lt hg).trans h
theorem Blk.ne_ {g' : Nat} {t' : TypeId} {cs' : Array Value} (h : Blk w g t cs) (h' : Blk w g' t' cs') (hne : t ≠ t') : g ≠ g' := by
  rintro rfl
  unfold Blk at h h'
  rw [h] at h'
  injection h' with h'
  injection h' with _ ht
  exact hne ht
theorem own_blk_ne {base : Nat} {e : TypeId} {size n : Nat} {v : Value} {xs : List Value} (h : w.ownsRow base e size v n xs) (hg : Blk w g t cs) (hne : e ≠ t) : v.ownBlock ≠ some g := by
  rcases h.2 with ⟨rfl, _⟩ | ⟨g', cap, cur, rfl, _, hh, _⟩
  · simp [Value.ownBlock]
  · intro he
    have : g' = g := by simpa [Value.ownBlock] using he
    subst this
    exact Blk.ne_ (t := e) hh hg hne rfl
end

/-! ### 3. A slice that reads as a list, nil let in -/
theorem block_of_add (a : Addr) (n : Nat) : (a.add n).block = a.block := by unfold Addr.add; split <;> rfl
theorem add_of_add (a : Addr) (i j : Nat) : (a.add i).add j = a.add (i + j) := by
  unfold Addr.add
  by_cases hi : i = 0 <;> by_cases hj : j = 0 <;> simp [hi, hj, Nat.add_assoc]

/-- The slice at A of n elements holds the cells xs; its block is one of S. -/
def Reads (w : World) (S : Nat → Prop) (size : Nat) (A : Option Addr) (n : Nat) (xs : List Value) : Prop :=
  xs.length = n * size ∧ (0 < n → ∃ ad, A = some ad ∧ S ad.block ∧ ad.block < w.heap.size ∧ ∀ j u, xs[j]? = some u → w.cell? (ad.add j) = some u)

section
variable {F S : Nat → Prop} {w w' : World} {size n : Nat} {A : Option Addr} {xs : List Value}
theorem Reads.none_ : Reads w S size A 0 [] := ⟨by simp, fun h => absurd h (by omega)⟩
theorem Reads.at_ {k : Nat} (h : Reads w S 1 A n xs) (hk : k < n) : ∃ ad u, A = some ad ∧ S ad.block ∧ ad.block < w.heap.size ∧ xs[k]? = some u ∧ w.cell? (ad.add k) = some u := by
  obtain ⟨ad, e, hs, hb, hc⟩ := h.2 (by omega)
  have hl : k < xs.length := by have := h.1; omega
  exact ⟨ad, xs[k], e, hs, hb, List.getElem?_eq_getElem hl, hc k _ (List.getElem?_eq_getElem hl)⟩
theorem Reads.keep (h : Reads w S size A n xs) (hz : w.heap.size ≤ w'.heap.size) (hk : ∀ p : Addr, S p.block → p.block < w.heap.size → w'.cell? p = w.cell? p) : Reads w' S size A n xs :=
  ⟨h.1, fun hn => by
    obtain ⟨ad, e, hs, hb, hc⟩ := h.2 hn
    exact ⟨ad, e, hs, by omega, fun j u hu => (hk _ (by rw [block_of_add]; exact hs) (by rw [block_of_add]; exact hb)).trans (hc j u hu)⟩⟩
theorem Reads.upd (h : Reads w S size A n xs) (hu : Upd F w w') (hd : ∀ k, S k → ¬ F k) : Reads w' S size A n xs :=
  h.keep hu.size fun _ hs hb => hu.cell hb (hd _ hs)
theorem Reads.drew (h : Reads w S size A n xs) : Reads w.drew S size A n xs := h
theorem Reads.drewN (h : Reads w S size A n xs) (k : Nat) : Reads (w.drewN k) S size A n xs := h
theorem Reads.alloc (h : Reads w S size A n xs) (o : Obj) : Reads (w.alloc o) S size A n xs := h.keep (by simp) fun p _ hb => World.cell?_alloc_lt w o p hb
theorem Reads.weak {S' : Nat → Prop} (h : Reads w S size A n xs) (hs : ∀ k, S k → S' k) : Reads w S' size A n xs :=
  ⟨h.1, fun hn => by
    obtain ⟨ad, e, h1, hb, hc⟩ := h.2 hn
    exact ⟨ad, e, hs _ h1, hb, hc⟩⟩
/-- s[k:] -/
theorem Reads.cut (h : Reads w S size A n xs) {k cap : Nat} (hk : k ≤ n) (hc : n ≤ cap) :
    Reads w S size (if cap = k then A else A.map (·.add (k * size))) (n - k) (xs.drop (k * size)) := by
  refine ⟨by rw [List.length_drop, h.1, Nat.sub_mul], fun hn => ?_⟩
  obtain ⟨ad, rfl, hs, hb, hcell⟩ := h.2 (by omega)
  rw [if_neg (by omega)]
  refine ⟨ad.add (k * size), rfl, by rw [block_of_add]; exact hs, by rw [block_of_add]; exact hb, fun j u hu => ?_⟩
  rw [add_of_add]
  exact hcell _ u (by rw [← hu, List.getElem?_drop])
/-- s[:k] -/
theorem Reads.upto (h : Reads w S size A n xs) {k : Nat} (hk : k ≤ n) : Reads w S size A k (xs.take (k * size)) := by
  refine ⟨by rw [List.length_take, h.1]; exact Nat.min_eq_left (Nat.mul_le_mul_right _ hk), fun hn => ?_⟩
  obtain ⟨ad, rfl, hs, hb, hcell⟩ := h.2 (by omega)
  refine ⟨ad, rfl, hs, hb, fun j u hu => hcell j u ?_⟩
  rw [List.getElem?_take] at hu
  split at hu
  · exact hu
  · cases hu
theorem Reads.of_own {base : Nat} {e : TypeId} {c : Nat} (h : w.ownsRow base e size (.slice A n c) n xs) : Reads w (fun k => (Value.slice A n c).ownBlock = some k) size A n xs := by
  refine ⟨h.1, fun hn => ?_⟩
  obtain ⟨g, cap, hv, _, hlt⟩ := h.form hn
  have hA : A = some ⟨g, 0, none⟩ := by injection hv
  subst hA
  exact ⟨_, rfl, rfl, hlt, h.cells (g := g) rfl⟩
end

theorem _root_.Go.World.ownsRow.shape {w : World} {base : Nat} {e : TypeId} {size n : Nat} {v : Value} {xs : List Value} (h : w.ownsRow base e size v n xs) : ∃ A c, v = .slice A n c := by
  rcases h.2 with ⟨rfl, rfl⟩ | ⟨g, cap, cur, rfl, _⟩
  · exact ⟨_, _, rfl⟩
  · exact ⟨_, _, rfl⟩
theorem owns_cap {w : World} {base : Nat} {e : TypeId} {size n c m : Nat} {A : Option Addr} {xs : List Value} (h : w.ownsRow base e size (.slice A n c) m xs) : n ≤ c ∧ n = m ∧ c ≤ maxLen := by
  rcases h.2 with ⟨hv, hm⟩ | ⟨g, cap, cur, hv, _, _, hnc, hcm, _⟩
  · injection hv with _ h1 h2
    exact ⟨by omega, by omega, by rw [h2]; exact Nat.zero_le _⟩
  · injection hv with _ h1 h2
    subst h2
    exact ⟨by omega, h1, hcm⟩
theorem owns_upd {F : Nat → Prop} {w w' : World} {base : Nat} {e : TypeId} {size n : Nat} {v : Value} {xs : List Value} (h : w.ownsRow base e size v n xs) (hu : Upd F w w') (hd : ∀ k, v.ownBlock = some k → ¬ F k) : w'.ownsRow base e size v n xs := by
  refine ⟨h.1, ?_⟩
  rcases h.2 with hn | ⟨g, cap, cur, rfl, hb, hg, rest⟩
  · exact .inl hn
  · refine .inr ⟨g, cap, cur, rfl, hb, ?_, rest⟩
    rw [hu.block g (Array.getElem?_eq_some_iff.1 hg).1 (hd g rfl)]
    exact hg
theorem owns_lt {w : World} {base : Nat} {e : TypeId} {size n : Nat} {v : Value} {xs : List Value} (h : w.ownsRow base e size v n xs) {k : Nat} (hk : v.ownBlock = some k) : k < w.heap.size := (h.lt k hk).2
theorem upd_set (w : World) (p : Addr) (u : Value) : Upd (fun i => i = p.block) w (w.setCell p u) := Upd.setCell (F := fun i => i = p.block) (Upd.refl w) (fun _ => rfl) u
theorem upd_grown {w w' : World} {row : Option Nat} (h : w.grownBy w' row) : Upd (fun i => row = some i) w w' := Upd.grown (F := fun i => row = some i) (Upd.refl w) h fun _ e _ => e

/-! ### 4. append onto a row of the call's own -/
section
variable {P : Program} (w : World)

theorem run_append_of_nil (base : Nat) (t ty e : TypeId) (i : TypeInfo) (size : Nat) (ht : P.underlying t = some (.slice e)) (hi : P.info? e = some i)
    (v : Value) (n : Nat) (xs : List Value) (hown : w.ownsRow base e size v n xs) (c : Nat) : (Builtin.append_ #[t, t] ty #[v, .slice none 0 c]).run P w = .ok v w := by
  rcases hown.2 with ⟨rfl, rfl⟩ | ⟨g, cap, cur, rfl, _, _, hnc, _⟩
  · simp [Builtin.append_, run_underlying ht, sizeOf, typeInfo, hi, Builtin.lenOf, Builtin.firstCells]
  · simp [Builtin.append_, run_underlying ht, sizeOf, typeInfo, hi, Builtin.lenOf, Builtin.firstCells, hnc, storeCells]

theorem run_append_any (t ty e : TypeId) (i : TypeInfo) (z : Value) (size bytes : Nat) (ht : P.underlying t = some (.slice e)) (hi : P.info? e = some i) (hz : i.zero = some z)
    (hsize : i.size = size) (hby : i.bytes = bytes) (hzs : z.cells.size = size) (hsz : 0 < size)
    (v : Value) (n : Nat) (xs : List Value) (hown : w.ownsRow 0 e size v n xs)
    (S : Nat → Prop) (A : Option Addr) (m c : Nat) (news : List Value) (hr : Reads w S size A m news) (h1 : ∀ u ∈ news, u.oneCell' = true)
    (h63 : n + m ≤ maxLen) (hbytes : (n + m) * bytes ≤ 140737488355328) :
    ∃ A' c' w', (Builtin.append_ #[t, t] ty #[v, .slice A m c]).run P w = .ok (.slice A' (n + m) c') w' ∧ w'.ownsRow 0 e size (.slice A' (n + m) c') (n + m) (xs ++ news) ∧ w.grownBy w' v.ownBlock ∧
      ((Value.slice A' (n + m) c').ownBlock = v.ownBlock ∨ (Value.slice A' (n + m) c').ownBlock = some w.heap.size) := by
  suffices h : ∃ v' w', (Builtin.append_ #[t, t] ty #[v, .slice A m c]).run P w = .ok v' w' ∧ w'.ownsRow 0 e size v' (n + m) (xs ++ news) ∧ w.grownBy w' v.ownBlock ∧
      (v'.ownBlock = v.ownBlock ∨ v'.ownBlock = some w.heap.size) by
    obtain ⟨v', w', h1, h2, h3, h4⟩ := h
    obtain ⟨A', c', rfl⟩ := h2.shape
    exact ⟨A', c', w', h1, h2, h3, h4⟩
  rcases A with _ | ad
  · have hm : m = 0 := by
      rcases Nat.eq_zero_or_pos m with h0 | h0
      · exact h0
      · obtain ⟨ad, h, _⟩ := hr.2 h0
        cases h
    subst hm
    have hn : news = [] := List.eq_nil_of_length_eq_zero (by simpa using hr.1)
    subst hn
    exact ⟨v, w, run_append_of_nil w 0 t ty e i size ht hi v n xs hown c, by simpa using hown, World.grownBy.refl w _, .inl rfl⟩
  · have hcells : ∀ j u, news[j]? = some u → w.cell? (ad.add j) = some u := by
      intro j u hu
      rcases Nat.eq_zero_or_pos m with h0 | h0
      · subst h0
        have hn : news = [] := List.eq_nil_of_length_eq_zero (by simpa using hr.1)
        subst hn
        simp at hu
      · obtain ⟨ad', h, _, _, hc⟩ := hr.2 h0
        injection h with h
        subst h
        exact hc j u hu
    obtain ⟨v', w', hrun, h2, h3, _, h5⟩ := run_append_own_at (P := P) w 0 t ty e i z size bytes ht hi hz hsize hby hzs hsz v n xs hown ad m c news hr.1 hcells h1 h63 hbytes (Nat.zero_le _)
    exact ⟨v', w', hrun, h2, h3, h5⟩

theorem wp_append_any {o : Oper} {a : Act} {K : Act → World → Prop} {Q : Exit → Act → World → Prop} (s x : Operand) (t : TypeId)
    (ho : o.op = .call { callee := .builtin .append, args := #[s, x], argTypes := #[t, t] })
    (e : TypeId) (i : TypeInfo) (z : Value) (size bytes : Nat) (ht : P.underlying t = some (.slice e)) (hi : P.info? e = some i) (hz : i.zero = some z)
    (hsize : i.size = size) (hby : i.bytes = bytes) (hzs : z.cells.size = size) (hsz : 0 < size)
    (v : Value) (n : Nat) (xs : List Value) (hs : a.eval s = v) (hown : w.ownsRow 0 e size v n xs)
    (S : Nat → Prop) (A : Option Addr) (m c : Nat) (news : List Value) (hx : a.eval x = .slice A m c) (hr : Reads w S size A m news) (h1 : ∀ u ∈ news, u.oneCell' = true)
    (h63 : n + m ≤ maxLen) (hbytes : (n + m) * bytes ≤ 140737488355328)
    (h : ∀ A' c' w', w'.ownsRow 0 e size (.slice A' (n + m) c') (n + m) (xs ++ news) → w.grownBy w' v.ownBlock → ((Value.slice A' (n + m) c').ownBlock = v.ownBlock ∨ (Value.slice A' (n + m) c').ownBlock = some w.heap.size) → K (a.put o.dst (.slice A' (n + m) c')) w') : o.wp P a w K Q := by
  obtain ⟨A', c', w', hrun, h2, h3, h4⟩ := run_append_any (P := P) w t o.type e i z size bytes ht hi hz hsize hby hzs hsz v n xs hown S A m c news hr h1 h63 hbytes
  unfold Oper.wp execOp
  simp only [ho, resolve, invoke, builtin, Sem.run_bind, Sem.run_pure, Result.andThen_ok, List.map_toArray, List.map_cons, List.map_nil, hs, hx, hrun]
  exact h A' c' w' h2 h3 h4

theorem wpList_append_any {ops : Array Oper} {rest : List Oper} {o : Oper} {a : Act} {Q : Exit → Act → World → Prop} (hgd : o.guard = none) (s x : Operand) (t : TypeId)
    (ho : o.op = .call { callee := .builtin .append, args := #[s, x], argTypes := #[t, t] })
    (e : TypeId) (i : TypeInfo) (z : Value) (size bytes : Nat) (ht : P.underlying t = some (.slice e)) (hi : P.info? e = some i) (hz : i.zero = some z)
    (hsize : i.size = size) (hby : i.bytes = bytes) (hzs : z.cells.size = size) (hsz : 0 < size)
    (v : Value) (n : Nat) (xs : List Value) (hs : a.eval s = v) (hown : w.ownsRow 0 e size v n xs)
    (S : Nat → Prop) (A : Option Addr) (m c : Nat) (news : List Value) (hx : a.eval x = .slice A m c) (hr : Reads w S size A m news) (h1 : ∀ u ∈ news, u.oneCell' = true)
    (h63 : n + m ≤ maxLen) (hbytes : (n + m) * bytes ≤ 140737488355328)
    (h : ∀ A' c' w', w'.ownsRow 0 e size (.slice A' (n + m) c') (n + m) (xs ++ news) → w.grownBy w' v.ownBlock → ((Value.slice A' (n + m) c').ownBlock = v.ownBlock ∨ (Value.slice A' (n + m) c').ownBlock = some w.heap.size) → wpList P ops Q rest (a.put o.dst (.slice A' (n + m) c')) w') : wpList P ops Q (o :: rest) a w :=
  wpList_plain hgd fun _ hK => wp_append_any w s x t ho e i z size bytes ht hi hz hsize hby hzs hsz v n xs hs hown S A m c news hx hr h1 h63 hbytes fun A' c' w' h2 h3 h4 => hK _ _ (h A' c' w' h2 h3 h4)

theorem step_append_any {ops : Array Oper} {o : Oper} {a : Act} {K : Act → World → Prop} {Q : Exit → Act → World → Prop} {E : Prop} (hgd : o.guard = none) (s x : Operand) (t : TypeId)
    (ho : o.op = .call { callee := .builtin .append, args := #[s, x], argTypes := #[t, t] })
    (e : TypeId) (i : TypeInfo) (z : Value) (size bytes : Nat) (ht : P.underlying t = some (.slice e)) (hi : P.info? e = some i) (hz : i.zero = some z)
    (hsize : i.size = size) (hby : i.bytes = bytes) (hzs : z.cells.size = size) (hsz : 0 < size)
    (v : Value) (n : Nat) (xs : List Value) (hs : a.eval s = v) (hown : w.ownsRow 0 e size v n xs)
    (S : Nat → Prop) (A : Option Addr) (m c : Nat) (news : List Value) (hx : a.eval x = .slice A m c) (hr : Reads w S size A m news) (h1 : ∀ u ∈ news, u.oneCell' = true)
    (h63 : n + m ≤ maxLen) (hbytes : (n + m) * bytes ≤ 140737488355328)
    (h : ∀ A' c' w', w'.ownsRow 0 e size (.slice A' (n + m) c') (n + m) (xs ++ news) → w.grownBy w' v.ownBlock → ((Value.slice A' (n + m) c').ownBlock = v.ownBlock ∨ (Value.slice A' (n + m) c').ownBlock = some w.heap.size) → K (a.put o.dst (.slice A' (n + m) c')) w') :
    if Region.wanted o (yielded ops a.tmps) = true then Oper.wp P o a w K Q else E := by
  have hw : Region.wanted o (yielded ops a.tmps) = true := by simp [Region.wanted, hgd]
  rw [if_pos hw]
  exact wp_append_any w s x t ho e i z size bytes ht hi hz hsize hby hzs hsz v n xs hs hown S A m c news hx hr h1 h63 hbytes h
end

/-! ### 5. Masks of ints -/
theorem i64_mask (n : Int) (i : Nat) (hi : i ≤ 62) : bits .and .i64 n (2 ^ i - 1) = n % 2 ^ i := by
  have hp : 0 < 2 ^ i := Nat.two_pow_pos i
  have h62 : 2 ^ i ≤ 4611686018427387904 := Nat.pow_le_pow_right (n := 2) (by decide) hi
  have hm : (BitVec.ofInt 64 ((2 : Int) ^ i - 1)).toNat = 2 ^ i - 1 := by
    rw [show (2 : Int) ^ i - 1 = ((2 ^ i - 1 : Nat) : Int) by have : ((2 ^ i : Nat) : Int) = (2 : Int) ^ i := by simp
                                                              omega, BitVec.ofInt_natCast, BitVec.toNat_ofNat]
    exact Nat.mod_eq_of_lt (by omega)
  have key : (BitVec.ofInt 64 n &&& BitVec.ofInt 64 ((2 : Int) ^ i - 1)).toNat = (n % ((2 ^ 64 : Nat) : Int)).toNat % 2 ^ i := by
    rw [BitVec.toNat_and, BitVec.toNat_ofInt, hm, Nat.and_two_pow_sub_one_eq_mod]
  show IntKind.i64.wrap ((BitVec.ofInt 64 n &&& BitVec.ofInt 64 ((2 : Int) ^ i - 1)).toNat : Nat) = n % 2 ^ i
  have h0 : 0 ≤ n % ((2 ^ 64 : Nat) : Int) := Int.emod_nonneg _ (by decide)
  have e : (((n % ((2 ^ 64 : Nat) : Int)).toNat % 2 ^ i : Nat) : Int) = n % 2 ^ i := by
    rw [Int.natCast_emod, Int.toNat_of_nonneg h0]
    have hd : ((2 ^ i : Nat) : Int) ∣ ((2 ^ 64 : Nat) : Int) := by
      rw [Int.natCast_dvd_natCast]
      exact Nat.pow_dvd_pow 2 (by omega)
    rw [Int.emod_emod_of_dvd _ hd]
    simp
  have hlt : (n % ((2 ^ 64 : Nat) : Int)).toNat % 2 ^ i < 2 ^ i := Nat.mod_lt _ hp
  rw [key, IntKind.wrap_i64, ← e]
  omega

/-! ### 6. Bytes -/
def bv (l : List UInt8) : List Value := l.map fun b => Value.int .u8 (b.toNat : Int)
theorem bv_length (l : List UInt8) : (bv l).length = l.length := by simp [bv]
theorem bv_append (l m : List UInt8) : bv (l ++ m) = bv l ++ bv m := by simp [bv]
theorem bv_one (l : List UInt8) : ∀ u ∈ bv l, u.oneCell' = true := by
  intro u hu
  simp [bv] at hu
  obtain ⟨b, _, rfl⟩ := hu
  rfl
/-- A slice (nil let in) of n one-cell elements at the head of a block that is known whole; its spare capacity is of no matter. -/
def Arr (w : World) (e : TypeId) (A : Option Addr) (n : Nat) (xs : List Value) : Prop :=
  xs.length = n ∧ (0 < n → ∃ g cur, A = some ⟨g, 0, none⟩ ∧ Blk w g e cur ∧ n ≤ cur.size ∧ cur.toList.take n = xs)

section
variable {w w' : World} {e : TypeId} {A : Option Addr} {n c : Nat} {xs : List Value} {F : Nat → Prop}
theorem Arr.of_own (h : w.ownsRow 0 e 1 (.slice A n c) n xs) : Arr w e A n xs := by
  refine ⟨by simpa using h.1, fun hn => ?_⟩
  rcases h.2 with ⟨_, h0⟩ | ⟨g, cap, cur, hv, _, hg, hnc, _, hcs, ht⟩
  · omega
  · injection hv with hA _ _
    exact ⟨g, cur, hA, hg, by omega, by simpa using ht⟩
theorem Arr.reads (h : Arr w e A n xs) : Reads w (fun k => A.map (·.block) = some k) 1 A n xs := by
  refine ⟨by simpa using h.1, fun hn => ?_⟩
  obtain ⟨g, cur, rfl, hb, hle, ht⟩ := h.2 hn
  refine ⟨_, rfl, rfl, hb.lt, fun j u hu => ?_⟩
  rw [Addr.add_lit, Nat.zero_add, hb.cell]
  rw [← ht, List.getElem?_take] at hu
  split at hu
  · simpa using hu
  · cases hu
theorem Arr.upd (h : Arr w e A n xs) (hu : Upd F w w') (hd : ∀ k, A.map (·.block) = some k → ¬ F k) : Arr w' e A n xs := by
  refine ⟨h.1, fun hn => ?_⟩
  obtain ⟨g, cur, rfl, hb, hle, ht⟩ := h.2 hn
  exact ⟨g, cur, rfl, hb.upd hu (hd g rfl), hle, ht⟩
theorem Arr.frozen (h : Arr w e A n xs) {k : Nat} {ad : Addr} (hA : A = some ad) (hk : k < n) : w.frozen? (ad.add k) = false := by
  obtain ⟨g, cur, rfl, hb, hle, ht⟩ := h.2 (by omega)
  injection hA with hA
  subst hA
  rw [Addr.add_lit, Nat.zero_add]
  exact hb.frozen _
end

theorem Arr.lt_a {w : World} {e : TypeId} {A : Option Addr} {n k : Nat} {xs : List Value} (h : Arr w e A n xs) (hn : 0 < n) (hk : A.map (·.block) = some k) : k < w.heap.size := by
  obtain ⟨g, cur, rfl, hb, _⟩ := h.2 hn
  have := hb.lt
  simp at hk
  omega

theorem Fresh.next {F : Nat → Prop} {w w1 w2 : World} (h : Fresh w w1) (k : Upd F w1 w2) (hs : ∀ i, F i → w.heap.size ≤ i) : Fresh w w2 := h.trans k fun i hi hf => by have := hs i hf; omega
/-- The slice's block, if it has one, is new since w0. -/
def AB (w0 : World) (A : Option Addr) : Prop := ∀ k, A.map (·.block) = some k → w0.heap.size ≤ k
theorem AB.none_ (w0 : World) : AB w0 none := fun _ h => by simp at h

theorem ownBlock_map (A : Option Addr) (n c : Nat) : (Value.slice A n c).ownBlock = A.map (·.block) := by cases A <;> rfl

/-! ### string(bytes) -/
theorem run_string_of {P : Program} {w : World} {S : Nat → Prop} {A : Option Addr} {c : Nat} {l : List UInt8} (src dst e : TypeId) (hs : P.underlying src = some (.slice e)) (he : P.underlying e = some (.int .u8)) (hd : P.underlying dst = some .string)
    (h : Reads w S 1 A l.length (bv l)) : (convert src dst (.slice A l.length c)).run P w = .ok (.string ⟨l.toArray⟩) w := by
  rcases A with _ | ad
  · have hl : l = [] := by
      rcases l with _ | ⟨b, l⟩
      · rfl
      · obtain ⟨ad, h, _⟩ := h.2 (by simp)
        cases h
    subst hl
    rw [run_convert_bytes_nil w src e hs he _ _ dst hd]
    rfl
  · have hl : (loadCells ad l.length).run P w = .ok (bv l).toArray w := by
      have := run_loadCells_list (P := P) w ad (bv l) (fun j v hj => by
        have hjl : j < l.length := by
          have := (List.getElem?_eq_some_iff.1 hj).1
          simpa [bv] using this
        obtain ⟨ad', he', _, _, hc⟩ := h.2 (by omega)
        injection he' with he'
        subst he'
        exact hc j v hj)
      simpa [bv] using this
    have hb : bv l = (l.map fun b => (b.toNat : Int)).map (Value.int .u8) := by simp [bv]
    rw [hb] at hl
    rw [run_convert_bytes_string w src dst e _ _ _ hs he hd, run_bytesToString w _ _ c _ hl, foldl_push_bytes]
    have e2 : (l.map fun b => (b.toNat : Int)).map (fun n => UInt8.ofNat n.toNat) = l := by
      rw [List.map_map]
      refine (List.map_congr_left fun b _ => ?_).trans (List.map_id l)
      simp
    rw [e2]
    simp [ByteArray.empty, ByteArray.emptyWithCapacity]
    rfl

def nv (k : IntKind) (l : List Nat) : List Value := l.map fun x : Nat => Value.int k (x : Int)
def iv (k : IntKind) (l : List Int) : List Value := l.map fun x => Value.int k x
def nAt (l : List Nat) (i : Nat) : Nat := l.getD i 0
def zAt (l : List Int) (i : Nat) : Int := l.getD i 0
theorem nv_at {k : IntKind} {l : List Nat} {i : Nat} {u : Value} (hi : i < l.length) (h : (nv k l)[i]? = some u) : u = .int k ((nAt l i : Nat) : Int) := by
  rw [nv, List.getElem?_map, List.getElem?_eq_getElem hi] at h
  simpa [nAt, List.getD, hi] using h.symm
theorem iv_at {k : IntKind} {l : List Int} {i : Nat} {u : Value} (hi : i < l.length) (h : (iv k l)[i]? = some u) : u = .int k (zAt l i) := by
  rw [iv, List.getElem?_map, List.getElem?_eq_getElem hi] at h
  simpa [zAt, List.getD, hi] using h.symm

/-! ### 7. Small words -/
theorem Arr.nil {w : World} {e : TypeId} {A : Option Addr} {xs : List Value} (h : xs = []) : Arr w e A 0 xs := by subst h; exact ⟨rfl, fun h => absurd h (by omega)⟩
theorem Reads.zero {w : World} {S : Nat → Prop} {n : Nat} {xs : List Value} (h : Reads w S 1 none n xs) : n = 0 ∧ xs = [] := by
  rcases Nat.eq_zero_or_pos n with h0 | h0
  · subst h0; exact ⟨rfl, List.eq_nil_of_length_eq_zero (by simpa using h.1)⟩
  · obtain ⟨ad, h1, _⟩ := h.2 h0
    cases h1

theorem owns_none {w : World} {e : TypeId} {size n c m : Nat} {A : Option Addr} {xs : List Value} (h : w.ownsRow 0 e size (.slice A n c) m xs) (hA : A = none) : c = 0 := by
  subst hA
  rcases h.2 with ⟨hv, _⟩ | ⟨g, cap, cur, hv, _⟩
  · injection hv
  · injection hv with h1; cases h1
theorem reads_new (w : World) (cs : Array Value) (t : TypeId) (size m : Nat) (hs : cs.size = m * size) : Reads (w.alloc (.cells cs t)) (fun _ => True) size (some ⟨w.heap.size, 0, none⟩) m cs.toList :=
  ⟨by simpa using hs, fun _ => ⟨_, rfl, trivial, by simp, fun j u hu => World.news_of_block (heap_alloc_new w (.cells cs t)) j u hu⟩⟩
theorem results_tmp4 {fn : Func} {t u v x : Tmp} (h : fn.results = #[.tmp t, .tmp u, .tmp v, .tmp x]) (tmps : Array Value) (P : Program) (w : World) :
    (results fn tmps).run P w = .ok (.tuple #[tmps.getD t undef, tmps.getD u undef, tmps.getD v undef, tmps.getD x undef]) w := by simp [results, h]

theorem add_far (a : Addr) (k j : Nat) (hj : 0 < j) : a.add (k + j) = ⟨(a.add k).block, (a.add k).off + j, none⟩ := by
  rw [← add_of_add]
  generalize a.add k = b
  unfold Addr.add
  rw [if_neg (by omega)]
theorem Arr.upd2 {F : Nat → Prop} {w w' : World} {e : TypeId} {A : Option Addr} {n : Nat} {xs : List Value} (h : Arr w e A n xs) (hu : Upd F w w') (hd : 0 < n → ∀ k, A.map (·.block) = some k → ¬ F k) : Arr w' e A n xs := by
  refine ⟨h.1, fun hn => ?_⟩
  obtain ⟨g, cur, rfl, hb, hle, ht⟩ := h.2 hn
  exact ⟨g, cur, rfl, hb.upd hu (hd hn g rfl), hle, ht⟩
theorem Arr.set_ {w : World} {e : TypeId} {n : Nat} {ad : Addr} {xs : List Value} (h : Arr w e (some ad) n xs) {j : Nat} (hj : j < n) (u : Value) : Arr (w.setCell (ad.add j) u) e (some ad) n (xs.set j u) := by
  refine ⟨by simpa using h.1, fun hn => ?_⟩
  obtain ⟨g, cur, hA, hb, hle, ht⟩ := h.2 hn
  injection hA with hA
  subst hA
  refine ⟨g, cur.setIfInBounds j u, rfl, ?_, by simpa using hle, ?_⟩
  · rw [Addr.add_lit, Nat.zero_add]
    exact hb.set_ j u
  · rw [Array.toList_setIfInBounds, ← ht, List.take_set]
theorem bv_ints (l : List UInt8) : ∀ u ∈ bv l, ∃ x : Int, u = .int .u8 x := by
  intro u hu
  obtain ⟨x, _, rfl⟩ := List.mem_map.1 hu
  exact ⟨_, rfl⟩
theorem ints_set {xs : List Value} (h : ∀ u ∈ xs, ∃ x : Int, u = .int .u8 x) (j : Nat) (y : Int) : ∀ u ∈ xs.set j (.int .u8 y), ∃ x : Int, u = .int .u8 x := by
  intro u hu
  rcases List.mem_or_eq_of_mem_set hu with h1 | h1
  · exact h u h1
  · exact ⟨y, h1⟩

theorem own_own_ne {w : World} {e e' : TypeId} {s s' n n' : Nat} {v v' : Value} {xs ys : List Value} (h : w.ownsRow 0 e s v n xs) (h' : w.ownsRow 0 e' s' v' n' ys) (hne : e ≠ e') {k : Nat} (hk : v.ownBlock = some k) : v'.ownBlock ≠ some k := by
  rcases h.2 with ⟨rfl, _⟩ | ⟨g, cap, cur, rfl, _, hg, _⟩
  · simp [Value.ownBlock] at hk
  · have hb : Blk w g e cur := hg
    have : g = k := by simpa [Value.ownBlock] using hk
    subst this
    exact own_blk_ne h' hb (fun e => hne e.symm)
end Go.Proofs.Ytiiolpchefldlaa
