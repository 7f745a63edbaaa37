import Derived.Test.YtiiolpchefldlaaFl
import Derived.Maps.OwnRows
namespace Go.Proofs.Ytiiolpchefldlaa
open Go.RowKit Go.Maps Go.MapKept Go.ChangeShapes Go.ChangeMaps
open Go.WideElems (rd_val)

/-! ### The index: a map whose rows hold places alone -/
theorem law48 : Keyed Try.prog 48 := int_keyed Try.underlying48
theorem zero50 (w : World) : (zeroValue 50).run Try.prog w = .ok (.slice none 0 0) w := by kernel_rfl
theorem Try.info3 : (Try.prog.info? 3).map (fun i => (i.zero, i.size, i.bytes)) = some (some (.int .i64 0), 1, 8) := by kernel_rfl
def GoodD (L : Nat) (d : DataW Unit) : Prop := d = .nil ∨ ∃ zs : List Int, d = .slice (lits .i64 zs) [] ∧ ∀ z ∈ zs, 0 ≤ z ∧ z ≤ (L : Int)
def GoodM (L : Nat) (D : DataW Unit) : Prop := ∃ entries, D = .map entries ∧ ∀ p ∈ entries, GoodD L p.2
theorem goodM_nil (L : Nat) : GoodM L (.map []) := ⟨[], rfl, fun p hp => by cases hp⟩
theorem lits_inj {zs ys : List Int} (h : (lits .i64 zs : List (DataW Unit)) = lits .i64 ys) : zs = ys := by
  unfold lits at h
  exact (List.map_inj_right (fun a b hab => by injection hab with h1; injection h1)).1 h
theorem goodM_at {L : Nat} {D : DataW Unit} {kl : Lit} {w : World} {base : Nat} {v : Value} {zs : List Int} (hQ : GoodM L D) (hat : D.atKey kl .nil = rowDatum .i64 v zs) (ho : w.ownsInts base 3 .i64 v zs) : ∀ z ∈ zs, 0 ≤ z ∧ z ≤ (L : Int) := by
  obtain ⟨entries, rfl, hg⟩ := hQ
  have hd : GoodD L ((DataW.map entries).atKey kl .nil) := by
    unfold DataW.atKey
    dsimp only
    split
    · rename_i p hp
      exact hg p (List.mem_of_find?_eq_some hp)
    · exact .inl rfl
  rw [hat] at hd
  rcases ho.datum (H := Unit) with ⟨_, rfl⟩ | h1
  · intro z hz
    cases hz
  · rw [h1] at hd
    rcases hd with h2 | ⟨ys, h2, h3⟩
    · cases h2
    · injection h2 with h2
      rw [lits_inj h2]
      exact h3
theorem mem_insert {x p : Lit × DataW Unit} : ∀ {l : List (Lit × DataW Unit)}, p ∈ DataW.insert x l → p = x ∨ p ∈ l
  | [], h => by
    rw [DataW.insert] at h
    simpa using h
  | y :: r, h => by
    rw [DataW.insert] at h
    split at h
    · rcases List.mem_cons.1 h with h | h
      · exact .inl h
      · exact .inr h
    · rcases List.mem_cons.1 h with h | h
      · exact .inr (by rw [h]; exact List.mem_cons_self)
      · rcases mem_insert h with h | h
        · exact .inl h
        · exact .inr (List.mem_cons_of_mem _ h)
theorem goodM_put {L : Nat} {D : DataW Unit} {kl : Lit} {v : Value} {zs : List Int} (hQ : GoodM L D) (hz : ∀ z ∈ zs, 0 ≤ z ∧ z ≤ (L : Int)) : GoodM L (D.put kl (rowDatum .i64 v zs)) := by
  obtain ⟨entries, rfl, hg⟩ := hQ
  refine ⟨_, rfl, fun p hp => ?_⟩
  rcases mem_insert hp with h | h
  · rw [h]
    unfold GoodD rowDatum
    dsimp only
    split
    · exact .inl rfl
    · exact .inr ⟨zs, rfl, hz⟩
  · exact hg p (List.mem_filter.1 h).1
structure Grp (w : World) (B n L : Nat) (D : DataW Unit) : Prop where
  own : w.ownsGroups Try.prog 48 (B + 1) 3 .i64 B n D
  good : GoodM L D
theorem ints_keep {w w' : World} {base : Nat} {v : Value} {zs : List Int} (h : w.ownsInts base 3 .i64 v zs) (hk : KeepO w w') : w'.ownsInts base 3 .i64 v zs := by
  refine ⟨⟨h.1.1, ?_⟩, h.2⟩
  rcases h.1.2 with h0 | ⟨g, cap, cur, h1, h2, h3, h4⟩
  · exact .inl h0
  · exact .inr ⟨g, cap, cur, h1, h2, hk g _ h3 (by rintro (h | h) <;> cases h), h4⟩
theorem Grp.keep {w w' : World} {B n L : Nat} {D : DataW Unit} (h : Grp w B n L D) (hk : KeepO w w') : Grp w' B n L D := by
  refine ⟨?_, h.good⟩
  obtain ⟨es, clock, hb, F, hs, he, hbb, hlen, hap⟩ := h.own
  have hst : ∀ x ∈ es.toList, ∀ z, rowElem (H := Unit) w (B + 1) 3 .i64 x.val = some z → rowElem w' (B + 1) 3 .i64 x.val = some z := fun x hx z hz => by
    obtain ⟨zs, ho, rfl⟩ := rowElem_inv hz
    exact rowElem_mk (ints_keep ho hk)
  obtain ⟨F1, hmap, _⟩ := F.stay hst
  refine ⟨es, clock, hk B _ hb (fun h => h), F1, hs, by rw [hmap]; exact he, hbb, fun x hx zs ho => ?_, hap⟩
  obtain ⟨y, hy⟩ := F.reads x hx
  obtain ⟨z, hz, _⟩ := rd_val hy
  obtain ⟨zs0, ho0, _⟩ := rowElem_inv hz
  rw [ho.unique (ints_keep ho0 hk)]
  exact hlen x hx zs0 ho0
theorem Grp.made (w : World) (L : Nat) : Grp (w.alloc (.map #[] 0)) w.heap.size 0 L (.map []) := ⟨World.ownsGroups_made _ _ _ _ _, goodM_nil L⟩
theorem wf_u64 {x : Int} (h1 : 0 ≤ x) (h2 : x < 18446744073709551616) : (Lit.int .u64 x).wf = true := by
  simp [Lit.wf, IntKind.min, IntKind.max, IntKind.bits, IntKind.signed]
  omega
theorem key48 {x : Int} (h1 : 0 ≤ x) (h2 : x < 18446744073709551616) : keyOf Try.prog 48 (.int .u64 x) = some (.int .u64 x) := keyOf_int_mk Try.underlying48 (wf_u64 h1 h2)
end Go.Proofs.Ytiiolpchefldlaa
