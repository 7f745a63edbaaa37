/-
  PktBack, where what is read is of bulk at most 1048576: for any bytes and most, what Side cuts Unside puts together; for any lines, what Encode writes Decode reads back, cut in two at any place (of more than 5,000 bytes nothing is asked).
-/
import Derived.Test.YtgknfbmlljhidaaRows
import Derived.Test.YtgknfbmlljhidaaBk
import Derived.Test.YtgknfbmlljhidaaArg
import Derived.JoinedCond
namespace Go.Proofs.Ytgknfbmlljhidaa.pktBack
open Go.ChangeShapes Go.WideShapes Go.ChangeAt Go.RowKit Go.Deep Go.Joins
set_option linter.unusedVariables false

theorem own : ownKnob Try.prog.godebug = none := by kernel_rfl
theorem laidOut : laidOutB Try.prog = true := by kernel_rfl
theorem all_ge {H : Type} {l : List (DataW H)} {k : Nat} (h : ∀ x ∈ l, k ≤ Rows.uptoBulk x) : k * l.length ≤ Rows.uptoBulkAll l := by
  induction l with
  | nil => simp
  | cons x r ih =>
    have h1 := h x (List.mem_cons_self ..)
    have h2 := ih (fun y hy => h y (List.mem_cons_of_mem _ hy))
    simp only [Rows.uptoBulkAll, List.length_cons, Nat.mul_succ]
    omega
/-- A line holds three values at least. -/
theorem three_lines {H : Type} {enc : TypeId × Value → H} {w : World} {fuel : Nat} {a : Option Addr} {n cap : Nat} {d : DataW H} {pl : List MemPlace} (h : DataW.trod enc Try.prog w 0 (fun _ => true) true fuel 29 (Value.slice a n cap).cells.toList = some (d, pl)) : 3 * n ≤ Rows.uptoBulk d := by
  rcases open_slice_fields Try.underlying29 Try.underlying28 (by kernel_rfl) (by kernel_rfl) h with ⟨hcs, _⟩ | ⟨x, l, c, m', D, Pl, hcs, _, hl, hm, hmm, hx, hf⟩
  · simp [Value.cells] at hcs
    omega
  · simp [Value.cells] at hcs
    obtain ⟨rfl, rfl, rfl⟩ := hcs
    simp only [if_true] at hmm
    simp only [Prod.mk.injEq] at hx
    obtain ⟨rfl, -⟩ := hx
    have h3 := all_ge (l := (List.range n).map D) (k := 3) (fun y hy => by
      obtain ⟨i, hi, rfl⟩ := List.mem_map.1 hy
      obtain ⟨ys, fu, hD, _, hyl, _⟩ := hf i (by have := List.mem_range.1 hi; omega)
      rw [hD]
      have h1 := pktArg.length_le (ys.map (·.1))
      rw [List.length_map, hyl] at h1
      simp only [Rows.uptoBulk]
      have : (2 : Nat) ≤ Rows.uptoBulkAll (ys.map (·.1)) := h1
      omega)
    rw [List.length_map, List.length_range] at h3
    simp only [Rows.uptoBulk]
    omega

set_option maxRecDepth 100000 in
theorem lifted (os : Os) (started : os.Started) (H : Type) (enc : TypeId × Value → H) (F : Stop.Interp) :
    ReturnsInHanded {} Try.checked os 6 .any ((Rows.OpenSpec.upto Rows.pktBackSpec).pre6 enc Try.prog Try.f6 Rows.pktBackUptoRow.domain false) (((Rows.OpenSpec.upto Rows.pktBackSpec).at F).post enc Try.prog Try.f6 false true false false) := by
  refine returnsInHanded_of_cond (C := Try.checked) (s := Rows.OpenSpec.upto Rows.pktBackSpec) (k := Rows.uptoSmall) rfl own started (by kernel_rfl) Try.func6
    (OpenSpec.witness (enc := enc) (C := Try.checked) (s := Rows.OpenSpec.upto Rows.pktBackSpec) (k := Rows.uptoSmall) rfl false ⟨#[], #[.slice none 0 0, .int .i64 0, .slice none 0 0, .int .i64 0], []⟩ 8 (by kernel_rfl) (by kernel_rfl) (by kernel_rfl)
      (x := ([.nil, .lit (.int .i64 0), .nil, .lit (.int .i64 0)], [], [])) (by kernel_rfl) rfl (by kernel_rfl)) ?_
  intro W base args ds gs before hval0 hW _ hk _
  have hval : ∀ (j : Nat) t v, Try.f6.params[j]? = some t → args[j]? = some v → Value.okWide Try.prog W .any base t v := hval0
  have hW' := hW
  obtain ⟨p, q, hA0, hV, rfl, hfz, hnd⟩ := hW
  have hA : DataW.TrodAll enc Try.prog W 0 (fun _ => true) true Try.f6.params.toList args.toList ds p := hA0
  rw [Try.params6] at hA hval
  obtain ⟨v0, vs0, d0, ds0, p0, q0, hargs, rfl, rfl, h0, r0⟩ := trodAll_cons hA
  obtain ⟨v1, vs1, d1, ds1, p1, q1, rfl, rfl, rfl, h1, r1⟩ := trodAll_cons r0
  obtain ⟨v2, vs2, d2, ds2, p2, q2, rfl, rfl, rfl, h2, r2⟩ := trodAll_cons r1
  obtain ⟨v3, vs3, d3, ds3, p3, q3, rfl, rfl, rfl, h3, r3⟩ := trodAll_cons r2
  obtain ⟨rfl, rfl, rfl⟩ := trodAll_nil r3
  obtain rfl : args = #[v0, v1, v2, v3] := by cases args; simp_all
  obtain ⟨rfl, rfl⟩ := trodVars_none hV
  have hkk : Rows.uptoBulkAll ([d0, d1, d2, d3] ++ []) ≤ 1048576 := of_decide_eq_true hk
  simp only [List.append_nil, Rows.uptoBulkAll] at hkk
  obtain ⟨a0, len0, cap0, rfl⟩ := okWide_slice Try.underlying29 (hval 0 29 v0 rfl rfl)
  obtain ⟨n, rfl, rfl, rfl, w1⟩ := open_int Try.underlying3 (hval 1 3 v1 rfl rfl) h1
  obtain ⟨a2, len2, cap2, rfl⟩ := okWide_slice Try.underlying23 (hval 2 23 v2 rfl rfl)
  obtain ⟨x, rfl, rfl, rfl, w3⟩ := open_int Try.underlying3 (hval 3 3 v3 rfl rfl) h3
  have k0 := h0
  have lt0 : ∀ x ∈ p0, x.block < W.heap.size := by obtain ⟨m, hm⟩ := k0; exact DataW.trod_lt m _ _ _ hm
  have k2 := h2
  have lt2 : ∀ x ∈ p2, x.block < W.heap.size := by obtain ⟨m, hm⟩ := k2; exact DataW.trod_lt m _ _ _ hm
  obtain ⟨fuel0, hf0⟩ := h0
  obtain ⟨fuel2, hf2⟩ := h2
  obtain ⟨ls, hll, hlr, hl1, hl2, hl3, hl4⟩ := pktArg.open_lines hf0 (by omega)
  have hthree := three_lines hf0
  obtain ⟨b, hbl, hbr, hb1, hb2, hb3⟩ := pktArg.open_bytes hf2 (by omega)
  subst hll
  subst hbl
  clear hA0 hval0
  have hx := wf_i64 w3
  have hn := wf_i64 w1
  have htot := pktArg.tot_le ls hl4
  have hmul : ls.length * 1048580 ≤ 349525 * 1048580 := Nat.mul_le_mul_right _ (by omega)
  refine (back_any (ca := cap0) n x hlr hbr hl1 (by omega) (by omega) hb1 (by omega) hx.1 hx.2 hn.1 hn.2).mono fun e W' ⟨he, hfr⟩ => ?_
  subst he
  have bel : Below W.heap.size W W' := hfr.below (Nat.le_refl _) fun _ h => h.elim
  exact ⟨_, rfl, _, _, _, [], _, [], hW', trodAll_mk1 (shut_bool Try.underlying4 _), (trodAll_cons_mk (Below.trod laidOut (by kernel_rfl) (of_decide_eq_true (by kernel_rfl)) k0 bel lt0) (trodAll_cons_mk (shut_int Try.underlying3 w1) (trodAll_cons_mk (Below.trod laidOut (by kernel_rfl) (of_decide_eq_true (by kernel_rfl)) k2 bel lt2) (trodAll_cons_mk (shut_int Try.underlying3 w3) trodAll_mk0)))), rfl, bel.frame _, fun h => by cases h⟩

theorem over : Rows.pktBackUptoRow.holds Try.pinned (Rows.OpenSpec.upto Rows.pktBackSpec) :=
  OpenClaim.holds_of_cond 6 Try.f6 rfl rfl rfl rfl rfl rfl rfl ⟨rfl, rfl, rfl, rfl, rfl⟩ rfl rfl rfl rfl rfl (by kernel_rfl) Try.func6 (by kernel_rfl)
    (of_decide_eq_true (by kernel_rfl)) (by unfold Func.isWrapper; first | (rw [if_pos (by decide +kernel)]; kernel_rfl) | (rw [if_neg (by decide +kernel)]; exact ⟨rfl, rfl⟩))
    (fun os started H enc _ F => lifted os started H enc F)

theorem proved : Rows.PktBackUptoSaid := over
#print axioms proved
end Go.Proofs.Ytgknfbmlljhidaa.pktBack
