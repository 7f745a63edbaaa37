/-
  NetPlays: for any net (any two ints) and any script of calls (Send, Take, Twice, At of any arguments; the first eighty are played) the program's net and the document's give the same answers, hold as many datagrams and have lost as many; the call returns true and leaves its arguments as they were. No condition.
-/
import Derived.Test.YtdflbfkdegkboaaRows
import Derived.Test.YtdflbfkdegkboaaPlays
import Derived.Test.YtdflbfkdegkboaaOpen
namespace Go.Proofs.Ytdflbfkdegkboaa.netPlays
open Go.ChangeShapes Go.WideShapes Go.ChangeAt Go.RowKit Go.Deep Go.Joins
set_option linter.unusedVariables false

theorem own : ownKnob Try.prog.godebug = none := by kernel_rfl
theorem laidOut : laidOutB Try.prog = true := by kernel_rfl
theorem bytes5 : Try.prog.bytesOf 5 = 1 := by kernel_rfl

theorem weightsAll_mem {H : Type} {P : Program} {e : TypeId} : ∀ {l : List (DataW H)} {d : DataW H}, d ∈ l → ∀ n ∈ d.weights P e, n ∈ DataW.weightsAll P e l
  | d' :: r, d, hd, n, hn => by
    simp only [DataW.weightsAll, List.mem_append]
    rcases List.mem_cons.1 hd with rfl | h
    · exact Or.inl hn
    · exact Or.inr (weightsAll_mem h n hn)
/-- A slice in a field of a struct in a slice that came in: how long. -/
theorem sized_field {H : Type} {P : Program} {ts : List TypeId} {ds : List (DataW H)} (h : (DataW.weightsEach P ts ds).all (· ≤ reachBytes) = true) {j : Nat} {t e q eq : TypeId} {fs : Array Field} {k : Nat} {elems spare e' sp' parts : List (DataW H)}
    (ht : ts[j]? = some t) (hd : ds[j]? = some (.slice elems spare)) (hu : P.underlying t = some (.slice e)) (hu2 : P.underlying e = some (.struct fs)) (hk : (fs.toList.map (·.type))[k]? = some q) (hu3 : P.underlying q = some (.slice eq))
    (hx : DataW.agg parts ∈ elems) (hp : parts[k]? = some (.slice e' sp')) : (e'.length + sp'.length) * P.bytesOf eq ≤ reachBytes := by
  refine of_decide_eq_true (List.all_eq_true.1 h _ (DataW.weights_mem_each ht hd _ ?_))
  simp only [DataW.weights, hu, List.mem_cons, List.mem_append]
  refine Or.inr (Or.inl (weightsAll_mem hx _ ?_))
  simp only [DataW.weights, hu2]
  exact DataW.weights_mem_each hk hp _ (by simp [DataW.weights, hu3])

theorem open_ops {H : Type} {enc : TypeId × Value → H} {w : World} {fuel : Nat} {a : Option Addr} {m cap : Nat} {x : DataW H × List MemPlace} (h : DataW.trod enc Try.prog w 0 (fun _ => true) true fuel 34 (Value.slice a m cap).cells.toList = some x)
    (hsz : ∀ elems spare parts e' sp', x.1 = .slice elems spare → DataW.agg parts ∈ elems → parts[4]? = some (.slice e' sp') → e'.length + sp'.length ≤ 140737488351232) :
    ∃ f, m ≤ maxLen ∧ OpsIn w a m f := by
  rcases open_slice_fields Try.underlying34 Try.underlying39 (by kernel_rfl) (by kernel_rfl) h with ⟨hcs, _⟩ | ⟨x0, l, c, m', D, Pl, hcs, _, hl, hm, hmm, hx, hf⟩
  · simp [Value.cells] at hcs
    obtain ⟨rfl, rfl, rfl⟩ := hcs
    exact ⟨fun _ => ⟨0, 0, 0, 0, none, 0, []⟩, Nat.zero_le _, fun h => absurd h (by omega), fun _ => ⟨Reads.none_, fun _ => rfl, Nat.zero_le _⟩⟩
  · simp [Value.cells] at hcs
    obtain ⟨rfl, rfl, rfl⟩ := hcs
    simp only [if_true] at hmm
    have key : ∀ i : Nat, ∃ y : SOp, (i < m → w.cell? (x0.add (i * 5)) = some (.int .i64 y.kd) ∧ w.cell? (x0.add (i * 5 + 1)) = some (.int .i64 y.ix) ∧ w.cell? (x0.add (i * 5 + 2)) = some (.int .i64 y.frm) ∧ w.cell? (x0.add (i * 5 + 3)) = some (.int .i64 y.to_) ∧ w.cell? (x0.add (i * 5 + 4)) = some (.slice y.da y.b.length y.dc)) ∧
        (Reads w (fun _ => True) 1 y.da y.b.length (bv y.b) ∧ (y.da = none → y.dc = 0) ∧ y.b.length ≤ 140737488351232) := by
      intro i
      by_cases hi : i < m
      · obtain ⟨ys, n, hD, _, hyl, hg⟩ := hf i (by omega)
        obtain ⟨v0, y0, hc0, _, ht0⟩ := hg 0 _ rfl
        obtain ⟨v1, y1, hc1, _, ht1⟩ := hg 1 _ rfl
        obtain ⟨v2, y2, hc2, _, ht2⟩ := hg 2 _ rfl
        obtain ⟨v3, y3, hc3, _, ht3⟩ := hg 3 _ rfl
        obtain ⟨v4, y4, hc4, hy4, ht4⟩ := hg 4 _ rfl
        obtain ⟨n0, e0, _, w0⟩ := DataW.trod_int Try.underlying3 ht0
        obtain ⟨n1, e1, _, w1⟩ := DataW.trod_int Try.underlying3 ht1
        obtain ⟨n2, e2, _, w2⟩ := DataW.trod_int Try.underlying3 ht2
        obtain ⟨n3, e3, _, w3⟩ := DataW.trod_int Try.underlying3 ht3
        obtain ⟨a4, l4, c4, e4⟩ := slice_form Try.underlying29 ht4
        simp only [List.cons.injEq, and_true] at e0 e1 e2 e3 e4
        subst e0; subst e1; subst e2; subst e3; subst e4
        obtain ⟨zs, hz, hd⟩ := open_nums (a := a4) (len := l4) (cap := c4) (d := y4.1) (p := y4.2) Try.underlying29 Try.underlying5 (by kernel_rfl) (by simpa [Value.cells] using ht4)
        obtain ⟨b, hbl, hbr⟩ := hz.bytes
        have hle := hz.2.1
        have hcap : c4 ≤ 140737488351232 := by
          rcases hd with ⟨_, h⟩ | ⟨el, sp, he, h⟩
          · omega
          · have := hsz ((List.range m).map D) _ (ys.map (·.1)) el sp (by rw [hx]) (by rw [← hD]; exact List.mem_map_of_mem (List.mem_range.2 hi)) (by rw [List.getElem?_map, hy4, Option.map_some, he])
            omega
        subst hbl
        exact ⟨⟨n0, n1, n2, n3, a4, c4, b⟩, fun _ => ⟨hc0, hc1, hc2, hc3, hc4⟩, hbr, hz.2.2.2.1, Nat.le_trans hle hcap⟩
      · exact ⟨⟨0, 0, 0, 0, none, 0, []⟩, fun h => absurd h hi, Reads.none_, fun _ => rfl, Nat.zero_le _⟩
    obtain ⟨f, hf2⟩ := Classical.axiomOfChoice key
    refine ⟨f, by omega, fun hm0 => ⟨x0, rfl, ?_, fun i hi => (hf2 i).1 hi⟩, fun i => (hf2 i).2⟩
    have h0 := ((hf2 0).1 hm0).1
    rw [Nat.zero_mul, show x0.add 0 = x0 from rfl] at h0
    exact World.block_lt_of_cell? w x0 h0

set_option maxRecDepth 100000 in
theorem lifted (os : Os) (started : os.Started) (H : Type) (enc : TypeId × Value → H) :
    ReturnsInHanded {} Try.checked os 4 .any (Rows.netPlaysSpec.pre6 enc Try.prog Try.f4 Rows.netPlaysRow.domain false) (Rows.netPlaysSpec.post enc Try.prog Try.f4 false true false false) := by
  refine returnsInHanded_of_change_sized (C := Try.checked) own started (by kernel_rfl) Try.func4
    (ChangeSpec.witness6 (enc := enc) (C := Try.checked) false ⟨#[], #[.int .i64 0, .int .i64 0, .slice none 0 0], []⟩ 8 (by kernel_rfl) (by kernel_rfl) (by kernel_rfl) (by kernel_rfl)) ?_
  intro W base args ds gs before hval0 hW hcnd hsz0 _
  have hsz : (DataW.weightsEach Try.prog (Try.f4.params.toList ++ Rows.netPlaysSpec.plain.varTypes Try.prog) (ds ++ gs)).all (· ≤ reachBytes) = true := hsz0
  have hval : ∀ (j : Nat) t v, Try.f4.params[j]? = some t → args[j]? = some v → Value.okWide Try.prog W .any base t v := hval0
  have hW' := hW
  obtain ⟨p, q, hA0, hV, rfl, hfz, hnd⟩ := hW
  have hA : DataW.TrodAll enc Try.prog W 0 (fun _ => true) true Try.f4.params.toList args.toList ds p := hA0
  rw [Try.params4] at hA hval hsz
  obtain ⟨v0, vs0, d0, ds0, p0, q0, hargs, rfl, rfl, h0, r0⟩ := trodAll_cons hA
  obtain ⟨v1, vs1, d1, ds1, p1, q1, rfl, rfl, rfl, h1, r1⟩ := trodAll_cons r0
  obtain ⟨v2, vs2, d2, ds2, p2, q2, rfl, rfl, rfl, h2, r2⟩ := trodAll_cons r1
  obtain ⟨rfl, rfl, rfl⟩ := trodAll_nil r2
  obtain rfl : args = #[v0, v1, v2] := by cases args; simp_all
  obtain ⟨rfl, rfl⟩ := trodVars_none hV
  obtain ⟨a0, rfl, rfl, rfl, w0⟩ := open_int Try.underlying3 (hval 0 3 v0 rfl rfl) h0
  obtain ⟨a1, rfl, rfl, rfl, w1⟩ := open_int Try.underlying3 (hval 1 3 v1 rfl rfl) h1
  obtain ⟨a2, len2, cap2, rfl⟩ := okWide_slice Try.underlying34 (hval 2 34 v2 rfl rfl)
  have k2 := h2
  have lt2 : ∀ x ∈ p2, x.block < W.heap.size := by obtain ⟨m, hm⟩ := k2; exact DataW.trod_lt m _ _ _ hm
  obtain ⟨fuel2, hf2⟩ := h2
  obtain ⟨f, hlen2, hops⟩ := open_ops hf2 (by
    rintro elems spare parts e' sp' he hp h4
    have he : d2 = .slice elems spare := he
    subst he
    have := sized_field hsz (j := 2) (t := 34) (e := 39) (q := 29) (eq := 5) (k := 4) rfl rfl Try.underlying34 Try.underlying39 (by kernel_rfl) Try.underlying29 hp h4
    rw [bytes5] at this
    simp only [reachBytes] at this
    omega)
  unfold maxLen at hlen2
  clear hA0 hval0 hsz0 hsz
  refine (plays_any a0 a1 a2 len2 cap2 f W hops (by omega)).mono fun e W' ⟨he, hfr⟩ => ?_
  subst he
  have bel : Below W.heap.size W W' := hfr.below (Nat.le_refl _) fun _ h => h.elim
  exact ⟨_, rfl, _, _, _, [], _, [], hW', trodAll_mk1 (shut_bool Try.underlying4 _), (trodAll_cons_mk (shut_int Try.underlying3 w0) (trodAll_cons_mk (shut_int Try.underlying3 w1) (trodAll_cons_mk (Below.trod laidOut (by kernel_rfl) (of_decide_eq_true (by kernel_rfl)) k2 bel lt2) trodAll_mk0))), rfl, bel.frame _, fun h => by cases h⟩

theorem over : Rows.netPlaysRow.holds Try.pinned (OpenSpec.ofChange Rows.netPlaysSpec) :=
  OpenClaim.holds_of_wide 4 Try.f4 rfl rfl rfl rfl rfl rfl rfl ⟨rfl, rfl, rfl, rfl, rfl⟩ rfl rfl rfl rfl rfl (by kernel_rfl) Try.func4 (by kernel_rfl)
    (of_decide_eq_true (by kernel_rfl)) (by unfold Func.isWrapper; first | (rw [if_pos (by decide +kernel)]; kernel_rfl) | (rw [if_neg (by decide +kernel)]; exact ⟨rfl, rfl⟩))
    (fun os started H enc _ => lifted os started H enc)

theorem proved : Rows.NetPlaysSaid := over
#print axioms proved
end Go.Proofs.Ytdflbfkdegkboaa.netPlays
