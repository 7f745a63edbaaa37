/-
  BitsWrites, where what is read is of bulk at most 1048576: for any script of calls (Put, Raw, Align, Code, Bytes of any arguments; the first eighty are played) the program's Writer and the reference's hold the same bytes behind each call.
-/
import Derived.Test.YtafmkjlkeffmfaaRows
import Derived.Test.YtafmkjlkeffmfaaWrs
import Derived.Test.YtafmkjlkeffmfaaOpen
import Derived.JoinedCond
namespace Go.Proofs.Ytafmkjlkeffmfaa.bitsWrites
open Go.ChangeShapes Go.WideShapes Go.ChangeAt Go.RowKit Go.Deep Go.Joins
set_option linter.unusedVariables false

theorem own : ownKnob Try.prog.godebug = none := by kernel_rfl
theorem laidOut : laidOutB Try.prog = true := by kernel_rfl
section
variable {H : Type}
theorem one_le (d : DataW H) : 1 ≤ Rows.uptoBulk d := by
  cases d with
  | lit l => cases l <;> simp [Rows.uptoBulk]
  | _ => simp [Rows.uptoBulk]
theorem part_le {d : DataW H} {l : List (DataW H)} (h : d ∈ l) : Rows.uptoBulk d ≤ Rows.uptoBulkAll l := by
  induction l with
  | nil => cases h
  | cons x r ih =>
    simp only [Rows.uptoBulkAll]
    rcases List.mem_cons.1 h with e | e
    · subst e; omega
    · have := ih e; omega
theorem length_le (l : List (DataW H)) : l.length ≤ Rows.uptoBulkAll l := by
  induction l with
  | nil => simp [Rows.uptoBulkAll]
  | cons x r ih => have := one_le x; simp only [Rows.uptoBulkAll, List.length_cons]; omega
theorem slice_le (elems spare : List (DataW H)) : elems.length + spare.length + 1 ≤ Rows.uptoBulk (.slice elems spare) := by
  have h1 := length_le elems
  have h2 := length_le spare
  simp only [Rows.uptoBulk]
  omega
theorem field_le {parts elems spare : List (DataW H)} {d : DataW H} {k : Nat} (h : parts[k]? = some d) (h2 : DataW.agg parts ∈ elems) : Rows.uptoBulk d ≤ Rows.uptoBulk (.slice elems spare) := by
  have h3 := part_le (List.mem_of_getElem? h)
  have h4 := part_le h2
  simp only [Rows.uptoBulk] at h4 ⊢
  omega
end

theorem open_ops {H : Type} {enc : TypeId × Value → H} {w : World} {fuel : Nat} {a : Option Addr} {m cap : Nat} {d : DataW H} {pl : List MemPlace} (h : DataW.trod enc Try.prog w 0 (fun _ => true) true fuel 40 (Value.slice a m cap).cells.toList = some (d, pl)) (hk : Rows.uptoBulk d ≤ 1048576) :
    ∃ f, m ≤ maxLen ∧ WOps w a m f := by
  rcases open_slice_fields Try.underlying40 Try.underlying45 (by kernel_rfl) (by kernel_rfl) h with ⟨hcs, _⟩ | ⟨x, l, c, m', D, Pl, hcs, _, hl, hm, hmm, hx, hf⟩
  · simp [Value.cells] at hcs
    obtain ⟨rfl, rfl, rfl⟩ := hcs
    exact ⟨fun _ => ⟨0, 0, 0, none, 0, []⟩, Nat.zero_le _, fun h => absurd h (by omega), fun _ => ⟨Reads.none_, by simp, by simp, by simp, by simp⟩⟩
  · simp [Value.cells] at hcs
    obtain ⟨rfl, rfl, rfl⟩ := hcs
    simp only [if_true] at hmm
    simp only [Prod.mk.injEq] at hx
    obtain ⟨rfl, -⟩ := hx
    have key : ∀ i : Nat, ∃ y : SOp, (i < m → w.cell? (x.add (i * 4)) = some (.int .i64 y.kd) ∧ w.cell? (x.add (i * 4 + 1)) = some (.int .i64 y.nn) ∧ w.cell? (x.add (i * 4 + 2)) = some (.int .u32 (y.v : Int)) ∧ w.cell? (x.add (i * 4 + 3)) = some (.slice y.da y.b.length y.dc)) ∧
        (Reads w (fun _ => True) 1 y.da y.b.length (bv y.b) ∧ y.b.length ≤ 1048576 ∧ y.v < 4294967296 ∧ -9223372036854775808 ≤ y.nn ∧ y.nn ≤ 9223372036854775807) := by
      intro i
      by_cases hi : i < m
      · obtain ⟨ys, n, hD, _, hyl, hg⟩ := hf i (by omega)
        obtain ⟨v0, y0, hc0, _, ht0⟩ := hg 0 _ rfl
        obtain ⟨v1, y1, hc1, _, ht1⟩ := hg 1 _ rfl
        obtain ⟨v2, y2, hc2, _, ht2⟩ := hg 2 _ rfl
        obtain ⟨v3, ⟨d3, p3⟩, hc3, hy3, ht3⟩ := hg 3 _ rfl
        obtain ⟨n0, e0, _, w0⟩ := DataW.trod_int Try.underlying3 ht0
        obtain ⟨n1, e1, _, w1⟩ := DataW.trod_int Try.underlying3 ht1
        obtain ⟨n2, e2, _, w2⟩ := DataW.trod_int Try.underlying29 ht2
        obtain ⟨a3, l3, c3, e3⟩ := slice_form Try.underlying24 ht3
        simp only [List.cons.injEq, and_true] at e0 e1 e2 e3
        subst e0; subst e1; subst e2; subst e3
        have b1 := wf_i64 w1
        have b2 := wf_u32 w2
        obtain ⟨zs, hz, hd⟩ := open_nums Try.underlying24 Try.underlying5 (by kernel_rfl) ht3
        have hc : c3 ≤ 1048576 := by
          rcases hd with ⟨_, h⟩ | ⟨el, sp, rfl, h⟩
          · omega
          · have h1 := slice_le el sp
            have h2 := field_le (d := DataW.slice el sp) (k := 3) (parts := ys.map (·.1)) (elems := (List.range m).map D) (spare := (List.range (m' - m)).map fun j => D (m + j)) (by simp [hy3]) (by rw [← hD]; exact List.mem_map.2 ⟨i, List.mem_range.2 hi, rfl⟩)
            omega
        obtain ⟨b, hbl, hbr⟩ := hz.bytes
        have hle := hz.2.1
        subst hbl
        have e2 : ((n2.toNat : Nat) : Int) = n2 := by omega
        exact ⟨⟨n0, n1, n2.toNat, a3, c3, b⟩, fun _ => ⟨hc0, hc1, by rw [e2]; exact hc2, hc3⟩, hbr, by dsimp only; omega, by dsimp only; omega, b1.1, b1.2⟩
      · exact ⟨⟨0, 0, 0, none, 0, []⟩, fun h => absurd h hi, Reads.none_, by simp, by simp, by simp, by simp⟩
    obtain ⟨f, hf2⟩ := Classical.axiomOfChoice key
    refine ⟨f, by omega, fun hm0 => ⟨x, rfl, ?_, fun i hi => (hf2 i).1 hi⟩, fun i => (hf2 i).2⟩
    have h0 := ((hf2 0).1 hm0).1
    rw [Nat.zero_mul, show x.add 0 = x from rfl] at h0
    exact World.block_lt_of_cell? w x h0

set_option maxRecDepth 100000 in
theorem lifted (os : Os) (started : os.Started) (H : Type) (enc : TypeId × Value → H) (F : Stop.Interp) :
    ReturnsInHanded {} Try.checked os 6 .any ((Rows.OpenSpec.upto Rows.bitsWritesSpec).pre6 enc Try.prog Try.f6 Rows.bitsWritesUptoRow.domain false) (((Rows.OpenSpec.upto Rows.bitsWritesSpec).at F).post enc Try.prog Try.f6 false true false false) := by
  refine returnsInHanded_of_cond (C := Try.checked) (s := Rows.OpenSpec.upto Rows.bitsWritesSpec) (k := Rows.uptoSmall) rfl own started (by kernel_rfl) Try.func6
    (OpenSpec.witness (enc := enc) (C := Try.checked) (s := Rows.OpenSpec.upto Rows.bitsWritesSpec) (k := Rows.uptoSmall) rfl false ⟨#[], #[.slice none 0 0], []⟩ 8 (by kernel_rfl) (by kernel_rfl) (by kernel_rfl)
      (x := ([.nil], [], [])) (by kernel_rfl) rfl (by kernel_rfl)) ?_
  intro W base args ds gs before hval0 hW _ hk _
  have hval : ∀ (j : Nat) t v, Try.f6.params[j]? = some t → args[j]? = some v → Value.okWide Try.prog W .any base t v := hval0
  have hW' := hW
  obtain ⟨p, q, hA0, hV, rfl, hfz, hnd⟩ := hW
  have hA : DataW.TrodAll enc Try.prog W 0 (fun _ => true) true Try.f6.params.toList args.toList ds p := hA0
  rw [Try.params6] at hA hval
  obtain ⟨v0, vs0, d0, ds0, p0, q0, hargs, rfl, rfl, h0, r0⟩ := trodAll_cons hA
  obtain ⟨rfl, rfl, rfl⟩ := trodAll_nil r0
  obtain rfl : args = #[v0] := by cases args; simp_all
  obtain ⟨rfl, rfl⟩ := trodVars_none hV
  have hkk : Rows.uptoBulkAll ([d0] ++ []) ≤ 1048576 := of_decide_eq_true hk
  simp only [List.append_nil, Rows.uptoBulkAll] at hkk
  obtain ⟨a1, len1, cap1, rfl⟩ := okWide_slice Try.underlying40 (hval 0 40 v0 rfl rfl)
  have k1 := h0
  have lt1 : ∀ x ∈ p0, x.block < W.heap.size := by obtain ⟨m, hm⟩ := k1; exact DataW.trod_lt m _ _ _ hm
  obtain ⟨fuel1, hf1⟩ := h0
  obtain ⟨f, hlen1, hops⟩ := open_ops hf1 (by omega)
  unfold maxLen at hlen1
  clear hA0 hval0
  refine (writes_any a1 len1 cap1 f W hops (by omega)).mono fun e W' ⟨he, hfr⟩ => ?_
  subst he
  have bel : Below W.heap.size W W' := hfr.below (Nat.le_refl _) fun _ h => h.elim
  exact ⟨_, rfl, _, _, _, [], _, [], hW', trodAll_mk1 (shut_bool Try.underlying4 _), (trodAll_cons_mk (Below.trod laidOut (by kernel_rfl) (of_decide_eq_true (by kernel_rfl)) k1 bel lt1) trodAll_mk0), rfl, bel.frame _, fun h => by cases h⟩

theorem over : Rows.bitsWritesUptoRow.holds Try.pinned (Rows.OpenSpec.upto Rows.bitsWritesSpec) :=
  OpenClaim.holds_of_cond 6 Try.f6 rfl rfl rfl rfl rfl rfl rfl ⟨rfl, rfl, rfl, rfl, rfl⟩ rfl rfl rfl rfl rfl (by kernel_rfl) Try.func6 (by kernel_rfl)
    (of_decide_eq_true (by kernel_rfl)) (by unfold Func.isWrapper; first | (rw [if_pos (by decide +kernel)]; kernel_rfl) | (rw [if_neg (by decide +kernel)]; exact ⟨rfl, rfl⟩))
    (fun os started H enc _ F => lifted os started H enc F)

theorem proved : Rows.BitsWritesUptoSaid := over
#print axioms proved
end Go.Proofs.Ytafmkjlkeffmfaa.bitsWrites
