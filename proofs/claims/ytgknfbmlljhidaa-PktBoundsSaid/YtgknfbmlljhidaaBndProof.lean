/-
  PktBounds: for any length near the bounds a line is written just when it has at most 65,516 bytes, and is read back whole; for any four bytes ahead of an x, what they say is a length just when they are four small digits, and is read as the document bounds it; the call returns true and leaves its arguments as they were. No condition.
-/
import Derived.Test.YtgknfbmlljhidaaRows
import Derived.Test.YtgknfbmlljhidaaBnd
import Derived.Test.YtgknfbmlljhidaaOpen
namespace Go.Proofs.Ytgknfbmlljhidaa.pktBounds
open Go.ChangeShapes Go.WideShapes Go.ChangeAt Go.RowKit Go.Deep Go.Joins
set_option linter.unusedVariables false

theorem own : ownKnob Try.prog.godebug = none := by kernel_rfl
theorem laidOut : laidOutB Try.prog = true := by kernel_rfl

theorem open_four {H : Type} {enc : TypeId × Value → H} {w : World} {fuel base : Nat} {r : Reach} {v : Value} {x : DataW H × List MemPlace} (hv : Value.okWide Try.prog w r base 22 v) (h : DataW.trod enc Try.prog w 0 (fun _ => true) true fuel 22 v.cells.toList = some x) :
    ∃ x0 x1 x2 x3 : UInt8, v = .agg #[.int .u8 (x0.toNat : Int), .int .u8 (x1.toNat : Int), .int .u8 (x2.toNat : Int), .int .u8 (x3.toNat : Int)] := by
  obtain ⟨cs, rfl, hsz⟩ : ∃ cs, v = .agg cs ∧ cs.size = 4 := by
    have h4 : Try.prog.cellsOf 22 = 4 := by kernel_rfl
    simp only [Value.okWide, Try.underlying22] at hv
    obtain ⟨cs, h1, h2, _⟩ := hv
    exact ⟨cs, h1, by rw [h2, h4]⟩
  obtain ⟨xs, m, _, _, _, hl, hg⟩ := DataW.trod_array Try.underlying22 h
  have h1c : Try.prog.cellsOf 5 = 1 := by kernel_rfl
  have key : ∀ i (hi : i < 4), ∃ y : UInt8, cs[i]? = some (.int .u8 (y.toNat : Int)) := by
    intro i hi
    have h1 := hg i hi
    rw [h1c, Nat.mul_one] at h1
    have hxi : xs[i]? = some (xs[i]'(by omega)) := List.getElem?_eq_getElem (by omega)
    rw [hxi] at h1
    obtain ⟨n, e, _, hw⟩ := DataW.trod_int Try.underlying5 h1
    have hb := wf_u8 hw
    refine ⟨UInt8.ofNat n.toNat, ?_⟩
    have e2 : (Value.agg cs).cells.toList[i]? = some (.int .u8 n) := by
      have := congrArg (fun l => l[0]?) e
      simpa [List.getElem?_take, List.getElem?_drop] using this
    have e3 : cs[i]? = some (.int .u8 n) := by simpa [Value.cells] using e2
    rw [e3, UInt8.toNat_ofNat']
    congr 2
    omega
  obtain ⟨x0, e0⟩ := key 0 (by omega)
  obtain ⟨x1, e1⟩ := key 1 (by omega)
  obtain ⟨x2, e2⟩ := key 2 (by omega)
  obtain ⟨x3, e3⟩ := key 3 (by omega)
  refine ⟨x0, x1, x2, x3, ?_⟩
  congr 1
  apply Array.ext
  · simp [hsz]
  · intro i h1 h2
    have h4 : i < 4 := by omega
    have hi := Array.getElem?_eq_getElem h1
    rcases (show i = 0 ∨ i = 1 ∨ i = 2 ∨ i = 3 by omega) with rfl | rfl | rfl | rfl
    · rw [hi] at e0; simpa using e0
    · rw [hi] at e1; simpa using e1
    · rw [hi] at e2; simpa using e2
    · rw [hi] at e3; simpa using e3

set_option maxRecDepth 100000 in
theorem lifted (os : Os) (started : os.Started) (H : Type) (enc : TypeId × Value → H) :
    ReturnsInHanded {} Try.checked os 3 .any (Rows.pktBoundsSpec.pre6 enc Try.prog Try.f3 Rows.pktBoundsRow.domain false) (Rows.pktBoundsSpec.post enc Try.prog Try.f3 false true false false) := by
  refine returnsInHanded_of_change (C := Try.checked) own started (by kernel_rfl) Try.func3
    (ChangeSpec.witness6 (enc := enc) (C := Try.checked) false ⟨#[], #[.int .i64 0, .agg #[.int .u8 0, .int .u8 0, .int .u8 0, .int .u8 0]], []⟩ 8 (by kernel_rfl) (by kernel_rfl) (by kernel_rfl) (by kernel_rfl)) ?_
  intro W base args ds gs before hval0 hW hcnd _
  have hval : ∀ (j : Nat) t v, Try.f3.params[j]? = some t → args[j]? = some v → Value.okWide Try.prog W .any base t v := hval0
  have hW' := hW
  obtain ⟨p, q, hA0, hV, rfl, hfz, hnd⟩ := hW
  have hA : DataW.TrodAll enc Try.prog W 0 (fun _ => true) true Try.f3.params.toList args.toList ds p := hA0
  rw [Try.params3] at hA hval
  obtain ⟨v0, vs0, d0, ds0, p0, q0, hargs, rfl, rfl, h0, r0⟩ := trodAll_cons hA
  obtain ⟨v1, vs1, d1, ds1, p1, q1, rfl, rfl, rfl, h1, r1⟩ := trodAll_cons r0
  obtain ⟨rfl, rfl, rfl⟩ := trodAll_nil r1
  obtain rfl : args = #[v0, v1] := by cases args; simp_all
  obtain ⟨rfl, rfl⟩ := trodVars_none hV
  obtain ⟨a0, rfl, rfl, rfl, w0⟩ := open_int Try.underlying3 (hval 0 3 v0 rfl rfl) h0
  have k1 := h1
  have lt1 : ∀ x ∈ p1, x.block < W.heap.size := by obtain ⟨m, hm⟩ := k1; exact DataW.trod_lt m _ _ _ hm
  obtain ⟨fuel1, hf1⟩ := h1
  obtain ⟨x0, x1, x2, x3, rfl⟩ := open_four (hval 1 22 v1 rfl rfl) hf1
  clear hA0 hval0
  refine (bounds_any a0 x0 x1 x2 x3 W).mono fun e W' ⟨he, hfr⟩ => ?_
  subst he
  have bel : Below W.heap.size W W' := hfr.below (Nat.le_refl _) fun _ h => h.elim
  exact ⟨_, rfl, _, _, _, [], _, [], hW', trodAll_mk1 (shut_bool Try.underlying4 _), (trodAll_cons_mk (shut_int Try.underlying3 w0) (trodAll_cons_mk (Below.trod laidOut (by kernel_rfl) (of_decide_eq_true (by kernel_rfl)) k1 bel lt1) trodAll_mk0)), rfl, bel.frame _, fun h => by cases h⟩

theorem over : Rows.pktBoundsRow.holds Try.pinned (OpenSpec.ofChange Rows.pktBoundsSpec) :=
  OpenClaim.holds_of_wide 3 Try.f3 rfl rfl rfl rfl rfl rfl rfl ⟨rfl, rfl, rfl, rfl, rfl⟩ rfl rfl rfl rfl rfl (by kernel_rfl) Try.func3 (by kernel_rfl)
    (of_decide_eq_true (by kernel_rfl)) (by unfold Func.isWrapper; first | (rw [if_pos (by decide +kernel)]; kernel_rfl) | (rw [if_neg (by decide +kernel)]; exact ⟨rfl, rfl⟩))
    (fun os started H enc _ => lifted os started H enc)

theorem proved : Rows.PktBoundsSaid := over
#print axioms proved
end Go.Proofs.Ytgknfbmlljhidaa.pktBounds
