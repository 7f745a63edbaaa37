import Derived.Test.YtiiolpchefldlaaArg
import Derived.Test.YtiiolpchefldlaaAp
namespace Go.Proofs.Ytiiolpchefldlaa
open Go.RowKit Go.ChangeShapes Go.WideShapes Go.Deep Go.ChangeAt Go.Joins

/-- A slice of byte slices that came in. -/
structure Lns (w : World) (A : Option Addr) (n : Nat) (B : Nat → Option Addr) (l : Nat → List UInt8) (C : Nat → Nat) : Prop where
  nn : 0 < n → ∃ ad, A = some ad
  cell : ∀ ad, A = some ad → ∀ i, i < n → w.cell? (ad.add i) = some (.slice (B i) (l i).length (C i))
  sl : ∀ i, i < n → Sl w (B i) (l i) (C i)
theorem Lns.fresh {w w' : World} {A : Option Addr} {n : Nat} {B : Nat → Option Addr} {l : Nat → List UInt8} {C : Nat → Nat} (h : Lns w A n B l C) (hf : Fresh w w') : Lns w' A n B l C :=
  ⟨h.nn, fun ad hA i hi => (hf.cell (World.block_lt_of_cell? w _ (h.cell ad hA i hi)) (fun h => h)).trans (h.cell ad hA i hi), fun i hi => (h.sl i hi).fresh hf⟩
theorem open_lns {H : Type} {enc : TypeId × Value → H} {w : World} {base : Nat} {held : Bool} {fuel : Nat} {a : Option Addr} {n cap : Nat} {d : DataW H} {p : List MemPlace} (h : DataW.trod enc Try.prog w base (fun _ => true) held fuel 29 (Value.slice a n cap).cells.toList = some (d, p)) :
    ∃ B l C, Lns w a n B l C ∧ n ≤ 9223372036854775807 := by
  rcases open_slice Try.underlying29 h with ⟨hcs, _⟩ | ⟨x, l, c, m', n', D, Pl, hcs, _, hl, hm, hmm, _, hf⟩
  · simp [Value.cells] at hcs
    obtain ⟨rfl, rfl, rfl⟩ := hcs
    exact ⟨fun _ => none, fun _ => [], fun _ => 0, ⟨fun h => absurd h (by omega), fun _ _ _ h => absurd h (by omega), fun _ h => absurd h (by omega)⟩, by omega⟩
  · simp [Value.cells] at hcs
    obtain ⟨rfl, rfl, rfl⟩ := hcs
    simp only [if_true] at hmm
    subst hmm
    have key : ∀ i : Nat, ∃ y : Option Addr × List UInt8 × Nat, i < n → w.cell? (x.add i) = some (.slice y.1 y.2.1.length y.2.2) ∧ Sl w y.1 y.2.1 y.2.2 := by
      intro i
      by_cases hi : i < n
      · obtain ⟨cs', hc, ht⟩ := hf i (by omega)
        rw [show Try.prog.cellsOf 22 = 1 from by kernel_rfl, Nat.mul_one] at hc
        obtain ⟨_, _, hat⟩ := World.cells?_some hc
        obtain ⟨a3, l3, c3, e3⟩ := slice_form Try.underlying22 ht
        subst e3
        have h0 := hat 0 (by omega)
        rw [show (x.add i).add 0 = x.add i from rfl] at h0
        obtain ⟨b, hbl, hsl, _⟩ := deltaArg.open_sl ht
        subst hbl
        exact ⟨(a3, b, c3), fun _ => ⟨h0, hsl⟩⟩
      · exact ⟨(none, [], 0), fun h => absurd h hi⟩
    obtain ⟨f, hf2⟩ := Classical.axiomOfChoice key
    refine ⟨fun i => (f i).1, fun i => (f i).2.1, fun i => (f i).2.2, ⟨fun _ => ⟨x, rfl⟩, fun ad hA i hi => ?_, fun i hi => (hf2 i hi).2⟩, by unfold maxLen at hm; omega⟩
    cases hA
    exact (hf2 i hi).1
end Go.Proofs.Ytiiolpchefldlaa
