/-
  Arguments of bulk at most 1048576 opened: bytes, lines.
-/
import Derived.Test.YtgknfbmlljhidaaRows
import Derived.Test.YtgknfbmlljhidaaLn
import Derived.Test.YtgknfbmlljhidaaOpen
namespace Go.Proofs.Ytgknfbmlljhidaa.pktArg
open Go.ChangeShapes Go.WideShapes Go.ChangeAt Go.RowKit Go.Deep Go.Joins
set_option linter.unusedVariables false

section
variable {H : Type}
theorem one_le (d : DataW H) : 1 ≤ Rows.uptoBulk d := by
  cases d with
  | lit l => cases l <;> simp [Rows.uptoBulk]
  | _ => simp [Rows.uptoBulk]
theorem part_le {d : DataW H} {l : List (DataW H)} (h : d ∈ l) : Rows.uptoBulk d ≤ Rows.uptoBulkAll l := by
  induction l with
  | nil => cases h
  | cons x r ih =>
    simp only [Rows.uptoBulkAll]
    rcases List.mem_cons.1 h with e | e
    · subst e; omega
    · have := ih e; omega
theorem length_le (l : List (DataW H)) : l.length ≤ Rows.uptoBulkAll l := by
  induction l with
  | nil => simp [Rows.uptoBulkAll]
  | cons x r ih => have := one_le x; simp only [Rows.uptoBulkAll, List.length_cons]; omega
theorem slice_le (elems spare : List (DataW H)) : elems.length + spare.length + 1 ≤ Rows.uptoBulk (.slice elems spare) := by
  have h1 := length_le elems
  have h2 := length_le spare
  simp only [Rows.uptoBulk]
  omega
theorem field_le {parts elems spare : List (DataW H)} {d : DataW H} {k : Nat} (h : parts[k]? = some d) (h2 : DataW.agg parts ∈ elems) : Rows.uptoBulk d ≤ Rows.uptoBulk (.slice elems spare) := by
  have h3 := part_le (List.mem_of_getElem? h)
  have h4 := part_le h2
  simp only [Rows.uptoBulk] at h4 ⊢
  omega
end


theorem open_bytes {H : Type} {enc : TypeId × Value → H} {w : World} {fuel : Nat} {a : Option Addr} {len cap : Nat} {d : DataW H} {pl : List MemPlace} (h : DataW.trod enc Try.prog w 0 (fun _ => true) true fuel 23 (Value.slice a len cap).cells.toList = some (d, pl)) (hk : Rows.uptoBulk d ≤ 1048576) :
    ∃ b : List UInt8, b.length = len ∧ Reads w (fun _ => True) 1 a b.length (bv b) ∧ len ≤ cap ∧ cap ≤ 1048576 ∧ (a = none → cap = 0) := by
  obtain ⟨zs, hz, hd⟩ := open_nums Try.underlying23 Try.underlying5 (by kernel_rfl) h
  obtain ⟨b, hbl, hbr⟩ := hz.bytes
  refine ⟨b, hbl, hbr, hz.2.1, ?_, hz.2.2.2.1⟩
  rcases hd with ⟨_, h⟩ | ⟨el, sp, rfl, h⟩
  · omega
  · have h1 := slice_le el sp
    omega
theorem lines_of {w : World} {x : Addr} {n : Nat} {f : Nat → Ln} (hb : 0 < n → x.block < w.heap.size) (hc : ∀ i, i < n → w.cell? (x.add (i * 2)) = some (.int .i64 (f i).k) ∧ w.cell? (x.add (i * 2 + 1)) = some (.slice (f i).B (f i).d.length (f i).c)) :
    Reads w (fun _ => True) 2 (some x) n (lcells ((List.range n).map f)) := by
  have hlen : (lcells ((List.range n).map f)).length = n * 2 := by rw [lcells_length]; simp
  refine ⟨hlen, fun hn => ⟨x, rfl, trivial, hb hn, fun j u hu => ?_⟩⟩
  have hj : j < n * 2 := by rw [← hlen]; exact (List.getElem?_eq_some_iff.1 hu).1
  have hi : j / 2 < ((List.range n).map f).length := by simp; omega
  obtain ⟨h0, h1⟩ := lcells_at _ (j / 2) hi
  obtain ⟨g0, g1⟩ := hc (j / 2) (by omega)
  rcases (show j = j / 2 * 2 ∨ j = j / 2 * 2 + 1 by omega) with e | e
  · rw [e] at hu ⊢
    rw [h0] at hu
    rw [g0, ← hu]
    simp
  · rw [e] at hu ⊢
    rw [h1] at hu
    rw [g1, ← hu]
    simp
theorem open_lines {H : Type} {enc : TypeId × Value → H} {w : World} {fuel : Nat} {a : Option Addr} {n cap : Nat} {d : DataW H} {pl : List MemPlace} (h : DataW.trod enc Try.prog w 0 (fun _ => true) true fuel 29 (Value.slice a n cap).cells.toList = some (d, pl)) (hk : Rows.uptoBulk d ≤ 1048576) :
    ∃ ls : List Ln, ls.length = n ∧ LsR w a ls ∧ n ≤ 1048576 ∧ n ≤ cap ∧ cap ≤ 1048576 ∧ ∀ x ∈ ls, x.d.length ≤ 1048576 := by
  rcases open_slice_fields Try.underlying29 Try.underlying28 (by kernel_rfl) (by kernel_rfl) h with ⟨hcs, _⟩ | ⟨x, l, c, m', D, Pl, hcs, _, hl, hm, hmm, hx, hf⟩
  · simp [Value.cells] at hcs
    obtain ⟨rfl, rfl, rfl⟩ := hcs
    exact ⟨[], rfl, ⟨Reads.none_, by simp⟩, by omega, by omega, by omega, by simp⟩
  · simp [Value.cells] at hcs
    obtain ⟨rfl, rfl, rfl⟩ := hcs
    simp only [if_true] at hmm
    simp only [Prod.mk.injEq] at hx
    obtain ⟨rfl, -⟩ := hx
    have hsl := slice_le ((List.range n).map D) ((List.range (m' - n)).map fun j => D (n + j))
    simp only [List.length_map, List.length_range] at hsl
    have key : ∀ i : Nat, ∃ y : Ln, (i < n → w.cell? (x.add (i * 2)) = some (.int .i64 y.k) ∧ w.cell? (x.add (i * 2 + 1)) = some (.slice y.B y.d.length y.c)) ∧ y.lies w ∧ y.d.length ≤ 1048576 := by
      intro i
      by_cases hi : i < n
      · obtain ⟨ys, fu, hD, _, hyl, hg⟩ := hf i (by omega)
        obtain ⟨v0, y0, hc0, _, ht0⟩ := hg 0 _ rfl
        obtain ⟨v1, ⟨d1, p1⟩, hc1, hy1, ht1⟩ := hg 1 _ rfl
        obtain ⟨n0, e0, _, w0⟩ := DataW.trod_int Try.underlying3 ht0
        obtain ⟨a3, l3, c3, e3⟩ := slice_form Try.underlying23 ht1
        simp only [List.cons.injEq, and_true] at e0 e3
        subst e0; subst e3
        obtain ⟨b, hbl, hbr, hbc, hcc, hnone⟩ := open_bytes ht1 (by
          have h2 := field_le (d := d1) (k := 1) (parts := ys.map (·.1)) (elems := (List.range n).map D) (spare := (List.range (m' - n)).map fun j => D (n + j)) (by simp [hy1]) (by rw [← hD]; exact List.mem_map.2 ⟨i, List.mem_range.2 hi, rfl⟩)
          omega)
        subst hbl
        exact ⟨⟨n0, b, a3, c3⟩, fun _ => ⟨hc0, hc1⟩, ⟨hbr, hnone, hbc, by dsimp only; omega⟩, by dsimp only; omega⟩
      · exact ⟨⟨0, [], none, 0⟩, fun h => absurd h hi, ⟨Reads.none_, fun _ => rfl, Nat.le_refl _, by dsimp only; omega⟩, by simp⟩
    obtain ⟨f, hf2⟩ := Classical.axiomOfChoice key
    refine ⟨(List.range n).map f, by simp, ⟨?_, ?_⟩, by omega, hl, by omega, ?_⟩
    · have := lines_of (w := w) (x := x) (n := n) (f := f) (fun hn0 => by
        have h0 := ((hf2 0).1 hn0).1
        rw [Nat.zero_mul, show x.add 0 = x from rfl] at h0
        exact World.block_lt_of_cell? w x h0) (fun i hi => (hf2 i).1 hi)
      simpa using this
    · intro y hy
      obtain ⟨i, _, rfl⟩ := List.mem_map.1 hy
      exact (hf2 i).2.1
    · intro y hy
      obtain ⟨i, _, rfl⟩ := List.mem_map.1 hy
      exact (hf2 i).2.2
theorem tot_le (ls : List Ln) (h : ∀ x ∈ ls, x.d.length ≤ 1048576) : tot (ls.map Ln.p) ≤ ls.length * 1048580 := by
  induction ls with
  | nil => simp [tot]
  | cons x r ih =>
    have h1 := h x (List.mem_cons_self ..)
    have h2 := ih (fun y hy => h y (List.mem_cons_of_mem _ hy))
    rw [List.map_cons, tot_cons, List.length_cons, Nat.succ_mul]
    simp only [Ln.p]
    omega
end Go.Proofs.Ytgknfbmlljhidaa.pktArg
