/-
  BitsReads: for any bytes and any script of calls (Take, Bytes, Align of any arguments; the first sixty are played) the program's Reader and the reference's give the same answers and have begun the same number of bytes; the call returns true and leaves its arguments as they were. No condition.
-/
import Derived.Test.YtafmkjlkeffmfaaRows
import Derived.Test.YtafmkjlkeffmfaaReads
import Derived.Test.YtafmkjlkeffmfaaOpen
namespace Go.Proofs.Ytafmkjlkeffmfaa.bitsReads
open Go.ChangeShapes Go.WideShapes Go.ChangeAt Go.RowKit Go.Deep Go.Joins
set_option linter.unusedVariables false

theorem own : ownKnob Try.prog.godebug = none := by kernel_rfl
theorem laidOut : laidOutB Try.prog = true := by kernel_rfl
theorem bytes5 : Try.prog.bytesOf 5 = 1 := by kernel_rfl

theorem open_ops {H : Type} {enc : TypeId × Value → H} {w : World} {fuel : Nat} {a : Option Addr} {m cap : Nat} {x : DataW H × List MemPlace} (h : DataW.trod enc Try.prog w 0 (fun _ => true) true fuel 40 (Value.slice a m cap).cells.toList = some x) :
    ∃ kd nn vv da dn dc, m ≤ maxLen ∧ OpsIn w a m kd nn vv da dn dc := by
  rcases open_slice_fields Try.underlying40 Try.underlying45 (by kernel_rfl) (by kernel_rfl) h with ⟨hcs, _⟩ | ⟨x, l, c, m', D, Pl, hcs, _, hl, hm, hmm, _, hf⟩
  · simp [Value.cells] at hcs
    obtain ⟨rfl, rfl, rfl⟩ := hcs
    exact ⟨fun _ => 0, fun _ => 0, fun _ => 0, fun _ => none, fun _ => 0, fun _ => 0, Nat.zero_le _, fun h => absurd h (by omega), fun _ => by omega, fun _ => by omega, fun _ => by omega⟩
  · simp [Value.cells] at hcs
    obtain ⟨rfl, rfl, rfl⟩ := hcs
    simp only [if_true] at hmm
    have key : ∀ i : Nat, ∃ y : Int × Int × Int × Option Addr × Nat × Nat, (i < m → w.cell? (x.add (i * 4)) = some (.int .i64 y.1) ∧ w.cell? (x.add (i * 4 + 1)) = some (.int .i64 y.2.1) ∧ w.cell? (x.add (i * 4 + 2)) = some (.int .u32 y.2.2.1) ∧ w.cell? (x.add (i * 4 + 3)) = some (.slice y.2.2.2.1 y.2.2.2.2.1 y.2.2.2.2.2)) ∧
        (-9223372036854775808 ≤ y.1 ∧ y.1 ≤ 9223372036854775807) ∧ (-9223372036854775808 ≤ y.2.1 ∧ y.2.1 ≤ 9223372036854775807) ∧ (0 ≤ y.2.2.1 ∧ y.2.2.1 < 4294967296) := by
      intro i
      by_cases hi : i < m
      · obtain ⟨ys, n, _, _, _, hg⟩ := hf i (by omega)
        obtain ⟨v0, y0, hc0, _, ht0⟩ := hg 0 _ rfl
        obtain ⟨v1, y1, hc1, _, ht1⟩ := hg 1 _ rfl
        obtain ⟨v2, y2, hc2, _, ht2⟩ := hg 2 _ rfl
        obtain ⟨v3, y3, hc3, _, ht3⟩ := hg 3 _ rfl
        obtain ⟨n0, e0, _, w0⟩ := DataW.trod_int Try.underlying3 ht0
        obtain ⟨n1, e1, _, w1⟩ := DataW.trod_int Try.underlying3 ht1
        obtain ⟨n2, e2, _, w2⟩ := DataW.trod_int Try.underlying29 ht2
        obtain ⟨a3, l3, c3, e3⟩ := slice_form Try.underlying24 ht3
        simp only [List.cons.injEq, and_true] at e0 e1 e2 e3
        subst e0; subst e1; subst e2; subst e3
        have b0 := wf_i64 w0
        have b1 := wf_i64 w1
        have b2 := wf_u32 w2
        exact ⟨(n0, n1, n2, a3, l3, c3), fun _ => ⟨hc0, hc1, hc2, hc3⟩, b0, b1, b2.1, Int.lt_of_le_of_lt b2.2 (by decide)⟩
      · exact ⟨(0, 0, 0, none, 0, 0), fun h => absurd h hi, ⟨by decide, by decide⟩, ⟨by decide, by decide⟩, ⟨by decide, by decide⟩⟩
    obtain ⟨f, hf2⟩ := Classical.axiomOfChoice key
    refine ⟨fun i => (f i).1, fun i => (f i).2.1, fun i => (f i).2.2.1, fun i => (f i).2.2.2.1, fun i => (f i).2.2.2.2.1, fun i => (f i).2.2.2.2.2, by omega, fun hm0 => ⟨x, rfl, ?_, fun i hi => (hf2 i).1 hi⟩, fun i => (hf2 i).2.1, fun i => (hf2 i).2.2.1, fun i => (hf2 i).2.2.2⟩
    have h0 := ((hf2 0).1 hm0).1
    rw [Nat.zero_mul, show x.add 0 = x from rfl] at h0
    exact World.block_lt_of_cell? w x h0

set_option maxRecDepth 100000 in
theorem lifted (os : Os) (started : os.Started) (H : Type) (enc : TypeId × Value → H) :
    ReturnsInHanded {} Try.checked os 5 .any (Rows.bitsReadsSpec.pre6 enc Try.prog Try.f5 Rows.bitsReadsRow.domain false) (Rows.bitsReadsSpec.post enc Try.prog Try.f5 false true false false) := by
  refine returnsInHanded_of_change_sized (C := Try.checked) own started (by kernel_rfl) Try.func5
    (ChangeSpec.witness6 (enc := enc) (C := Try.checked) false ⟨#[], #[.slice none 0 0, .slice none 0 0], []⟩ 8 (by kernel_rfl) (by kernel_rfl) (by kernel_rfl) (by kernel_rfl)) ?_
  intro W base args ds gs before hval0 hW hcnd hsz0 _
  have hsz : (DataW.weightsEach Try.prog (Try.f5.params.toList ++ Rows.bitsReadsSpec.plain.varTypes Try.prog) (ds ++ gs)).all (· ≤ reachBytes) = true := hsz0
  have hval : ∀ (j : Nat) t v, Try.f5.params[j]? = some t → args[j]? = some v → Value.okWide Try.prog W .any base t v := hval0
  have hW' := hW
  obtain ⟨p, q, hA0, hV, rfl, hfz, hnd⟩ := hW
  have hA : DataW.TrodAll enc Try.prog W 0 (fun _ => true) true Try.f5.params.toList args.toList ds p := hA0
  rw [Try.params5] at hA hval hsz
  obtain ⟨v0, vs0, d0, ds0, p0, q0, hargs, rfl, rfl, h0, r0⟩ := trodAll_cons hA
  obtain ⟨v1, vs1, d1, ds1, p1, q1, rfl, rfl, rfl, h1, r1⟩ := trodAll_cons r0
  obtain ⟨rfl, rfl, rfl⟩ := trodAll_nil r1
  obtain rfl : args = #[v0, v1] := by cases args; simp_all
  obtain ⟨rfl, rfl⟩ := trodVars_none hV
  obtain ⟨a0, len0, cap0, rfl⟩ := okWide_slice Try.underlying24 (hval 0 24 v0 rfl rfl)
  have k0 := h0
  have lt0 : ∀ x ∈ p0, x.block < W.heap.size := by obtain ⟨m, hm⟩ := k0; exact DataW.trod_lt m _ _ _ hm
  obtain ⟨fuel0, hf0⟩ := h0
  obtain ⟨zs, hz, hd⟩ := open_nums Try.underlying24 Try.underlying5 (by kernel_rfl) hf0
  have hcap0 : cap0 ≤ 140737488351232 := by
    rcases hd with ⟨_, h⟩ | ⟨el, sp, rfl, h⟩
    · omega
    · have := sized_slice hsz (j := 0) (t := 24) (e := 5) rfl rfl Try.underlying24
      rw [bytes5, h] at this
      simp only [reachBytes] at this
      omega
  obtain ⟨b, hbl, hbr⟩ := hz.bytes
  obtain ⟨a1, len1, cap1, rfl⟩ := okWide_slice Try.underlying40 (hval 1 40 v1 rfl rfl)
  have k1 := h1
  have lt1 : ∀ x ∈ p1, x.block < W.heap.size := by obtain ⟨m, hm⟩ := k1; exact DataW.trod_lt m _ _ _ hm
  obtain ⟨fuel1, hf1⟩ := h1
  obtain ⟨kd, nn, vv, da, dn, dc, hlen1, hops⟩ := open_ops hf1
  unfold maxLen at hlen1
  have hle0 := hz.2.1
  clear hA0 hval0 hsz0 hsz
  subst hbl
  refine (reads_any _ a0 cap0 b a1 len1 cap1 kd nn vv da dn dc W hbr hops (by omega) (by omega)).mono fun e W' ⟨he, hfr⟩ => ?_
  subst he
  have bel : Below W.heap.size W W' := hfr.below (Nat.le_refl _) fun _ h => h.elim
  exact ⟨_, rfl, _, _, _, [], _, [], hW', trodAll_mk1 (shut_bool Try.underlying4 _), (trodAll_cons_mk (Below.trod laidOut (by kernel_rfl) (of_decide_eq_true (by kernel_rfl)) k0 bel lt0) (trodAll_cons_mk (Below.trod laidOut (by kernel_rfl) (of_decide_eq_true (by kernel_rfl)) k1 bel lt1) trodAll_mk0)), rfl, bel.frame _, fun h => by cases h⟩

theorem over : Rows.bitsReadsRow.holds Try.pinned (OpenSpec.ofChange Rows.bitsReadsSpec) :=
  OpenClaim.holds_of_wide 5 Try.f5 rfl rfl rfl rfl rfl rfl rfl ⟨rfl, rfl, rfl, rfl, rfl⟩ rfl rfl rfl rfl rfl (by kernel_rfl) Try.func5 (by kernel_rfl)
    (of_decide_eq_true (by kernel_rfl)) (by unfold Func.isWrapper; first | (rw [if_pos (by decide +kernel)]; kernel_rfl) | (rw [if_neg (by decide +kernel)]; exact ⟨rfl, rfl⟩))
    (fun os started H enc _ => lifted os started H enc)

theorem proved : Rows.BitsReadsSaid := over
#print axioms proved
end Go.Proofs.Ytafmkjlkeffmfaa.bitsReads
