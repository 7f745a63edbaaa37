/-
  No cell of these rows narrows 'for every input' (looked for: loops, veiled, ifaces, maps, wideKeys, modest, calm, conditions, laid).
  DERIVED. THE GIVEN ROWS OF THIS SEAT. 5 by the template 'for every input the law returns true; each argument reads behind the call as it read before'; 0 by the template 'total and deterministic' (their statements: YtiiolpchefldlaaTotals.lean).
  GIVEN WITH THE SEED: the statements are not yours to turn. If you find one false, say at which input.
  Laid BY PROGRAM, IN A SANDBOX (cutbox-rows.mjs): the forced cells as the released guide's own fill.sh prints them over the translation 5ad05ce836f065b7… (all of the seat's roots in one cut). By AI agents, Wed Nov 11 2026. No macro, syntax, notation, axiom, sorry.
-/
import Derived.Test.YtiiolpchefldlaaChecked
import GoSem.Claim
import GoSem.ClaimJoined
import GoSem.ClaimMapViews
import Derived.JoinedTies
import Derived.KernelRfl
namespace Go.Proofs.Ytiiolpchefldlaa
/- THE CELL 'sum', in the pinned program and in every row, IS THE sha256 OF THE DUMP (.gsa) THAT YtiiolpchefldlaaProg.lean LOADS. Nothing in Lean hashes anything: it is a label: what it is worth is what the hold of that sum in a sandbox is worth. -/
noncomputable def Try.pinned : Pinned := { name := "ytiiolpchefldlaa", sum := "5ad05ce836f065b787b216324f42112d1d345a4a5c3715daf817be658bc236f9", checked := Try.checked }
namespace Rows
def none {H : Type} : Left H := { results := [], args := [] }

/-- 'stemmalaw10.DeltaPieces': WHATEVER THE INPUT: true; the input reads as it did. -/
def deltaPiecesSpec : ChangeSpec := { name := "deltaPieces", fn := fun _ => fun
  | [d1, d2, d3, d4] => { results := [.lit (.bool true)], args := [d1, d2, d3, d4] }
  | _ => none }
def deltaPiecesRow : OpenClaim := { program := "ytiiolpchefldlaa", sum := "5ad05ce836f065b787b216324f42112d1d345a4a5c3715daf817be658bc236f9", func := "stemma/stemmalaw10.DeltaPieces", spec := "deltaPieces", inPlace := ["internal/bytealg.IndexByte", "internal/bytealg.Index"], named := ["internal/bytealg.MaxLen"], apart := false }
def DeltaPiecesSaid : Prop := deltaPiecesRow.holds Try.pinned (OpenSpec.ofChange deltaPiecesSpec)

/-- ITS FALSE NEIGHBOUR: 'it returns false'. Refute it at one input. -/
def deltaPiecesWrong : ChangeSpec := { name := "deltaPieces", fn := fun _ => fun
  | [d1, d2, d3, d4] => { results := [.lit (.bool false)], args := [d1, d2, d3, d4] }
  | _ => none }
def DeltaPiecesWrongFalsely : Prop := deltaPiecesRow.holds Try.pinned (OpenSpec.ofChange deltaPiecesWrong)

/-- 'stemmalaw10.DeltaChains': WHATEVER THE INPUT: true; the input reads as it did. -/
def deltaChainsSpec : ChangeSpec := { name := "deltaChains", fn := fun _ => fun
  | [d] => { results := [.lit (.bool true)], args := [d] }
  | _ => none }
def deltaChainsRow : OpenClaim := { program := "ytiiolpchefldlaa", sum := "5ad05ce836f065b787b216324f42112d1d345a4a5c3715daf817be658bc236f9", func := "stemma/stemmalaw10.DeltaChains", spec := "deltaChains", inPlace := ["internal/bytealg.IndexByte", "internal/bytealg.Index"], named := ["internal/bytealg.MaxLen"], apart := false }
def DeltaChainsSaid : Prop := deltaChainsRow.holds Try.pinned (OpenSpec.ofChange deltaChainsSpec)

/-- ITS FALSE NEIGHBOUR: 'it returns false'. Refute it at one input. -/
def deltaChainsWrong : ChangeSpec := { name := "deltaChains", fn := fun _ => fun
  | [d] => { results := [.lit (.bool false)], args := [d] }
  | _ => none }
def DeltaChainsWrongFalsely : Prop := deltaChainsRow.holds Try.pinned (OpenSpec.ofChange deltaChainsWrong)

/-- 'stemmalaw10.DeltaCopies': WHATEVER THE INPUT: true; the input reads as it did. -/
def deltaCopiesSpec : ChangeSpec := { name := "deltaCopies", fn := fun _ => fun
  | [d1, d2] => { results := [.lit (.bool true)], args := [d1, d2] }
  | _ => none }
def deltaCopiesRow : OpenClaim := { program := "ytiiolpchefldlaa", sum := "5ad05ce836f065b787b216324f42112d1d345a4a5c3715daf817be658bc236f9", func := "stemma/stemmalaw10.DeltaCopies", spec := "deltaCopies", apart := false }
def DeltaCopiesSaid : Prop := deltaCopiesRow.holds Try.pinned (OpenSpec.ofChange deltaCopiesSpec)

/-- ITS FALSE NEIGHBOUR: 'it returns false'. Refute it at one input. -/
def deltaCopiesWrong : ChangeSpec := { name := "deltaCopies", fn := fun _ => fun
  | [d1, d2] => { results := [.lit (.bool false)], args := [d1, d2] }
  | _ => none }
def DeltaCopiesWrongFalsely : Prop := deltaCopiesRow.holds Try.pinned (OpenSpec.ofChange deltaCopiesWrong)

/-- 'stemmalaw10.DeltaNumbers': WHATEVER THE INPUT: true; the input reads as it did. -/
def deltaNumbersSpec : ChangeSpec := { name := "deltaNumbers", fn := fun _ => fun
  | [d1, d2] => { results := [.lit (.bool true)], args := [d1, d2] }
  | _ => none }
def deltaNumbersRow : OpenClaim := { program := "ytiiolpchefldlaa", sum := "5ad05ce836f065b787b216324f42112d1d345a4a5c3715daf817be658bc236f9", func := "stemma/stemmalaw10.DeltaNumbers", spec := "deltaNumbers", apart := false }
def DeltaNumbersSaid : Prop := deltaNumbersRow.holds Try.pinned (OpenSpec.ofChange deltaNumbersSpec)

/-- ITS FALSE NEIGHBOUR: 'it returns false'. Refute it at one input. -/
def deltaNumbersWrong : ChangeSpec := { name := "deltaNumbers", fn := fun _ => fun
  | [d1, d2] => { results := [.lit (.bool false)], args := [d1, d2] }
  | _ => none }
def DeltaNumbersWrongFalsely : Prop := deltaNumbersRow.holds Try.pinned (OpenSpec.ofChange deltaNumbersWrong)

/-- 'stemmalaw10.DeltaMakes': WHATEVER THE INPUT: true; the input reads as it did. -/
def deltaMakesSpec : ChangeSpec := { name := "deltaMakes", fn := fun _ => fun
  | [d1, d2] => { results := [.lit (.bool true)], args := [d1, d2] }
  | _ => none }
def deltaMakesRow : OpenClaim := { program := "ytiiolpchefldlaa", sum := "5ad05ce836f065b787b216324f42112d1d345a4a5c3715daf817be658bc236f9", func := "stemma/stemmalaw10.DeltaMakes", spec := "deltaMakes", inPlace := ["internal/bytealg.IndexByte", "internal/bytealg.Index"], named := ["internal/bytealg.MaxLen"], apart := false }
def DeltaMakesSaid : Prop := deltaMakesRow.holds Try.pinned (OpenSpec.ofChange deltaMakesSpec)

/-- ITS FALSE NEIGHBOUR: 'it returns false'. Refute it at one input. -/
def deltaMakesWrong : ChangeSpec := { name := "deltaMakes", fn := fun _ => fun
  | [d1, d2] => { results := [.lit (.bool false)], args := [d1, d2] }
  | _ => none }
def DeltaMakesWrongFalsely : Prop := deltaMakesRow.holds Try.pinned (OpenSpec.ofChange deltaMakesWrong)

/- THE SECOND FORM. 'bulk': how many values and letters a reading holds, each counted each time it is reached (what is shared counts as often as it is met; a slice's spare places count too). A statement '..UptoSaid' is the law's where the arguments, and the package variables that the reading takes, are together of bulk at most 1048576: NARROWER than '..Said'. Prove '..Said' where nothing that the law and all that it calls make is longer than what came in: it says more and counts as full. Else prove '..UptoSaid'. A law counts once. -/
mutual
def uptoBulk {H : Type} : DataW H → Nat
  | .lit (.string bytes) => bytes.length + 1
  | .lit _ => 1
  | .nil => 1
  | .ptr d => uptoBulk d + 1
  | .slice elems spare => uptoBulkAll elems + uptoBulkAll spare + 1
  | .agg parts => uptoBulkAll parts + 1
  | .iface _ d => uptoBulk d + 1
  | .map entries => uptoBulkEntries entries + 1
  | .held _ => 1
def uptoBulkAll {H : Type} : List (DataW H) → Nat
  | [] => 0
  | d :: r => uptoBulk d + uptoBulkAll r
def uptoBulkEntries {H : Type} : List (Lit × DataW H) → Nat
  | [] => 0
  | x :: r => uptoBulkEntry x + uptoBulkEntries r
def uptoBulkEntry {H : Type} : Lit × DataW H → Nat
  | (.string bytes, d) => bytes.length + uptoBulk d + 1
  | (_, d) => uptoBulk d + 1
 end
def uptoSmall : (H : Type) → List (DataW H) → Bool := fun _ ds => decide (uptoBulkAll ds ≤ 1048576)
def OpenSpec.upto (s : _root_.Go.ChangeSpec) : _root_.Go.OpenSpec := { _root_.Go.OpenSpec.ofChange s with cond := some uptoSmall }

/-- 'stemmalaw10.DeltaPieces', WHERE WHAT IT READS IS OF BULK AT MOST 1048576: true; the input reads as it did. -/
def deltaPiecesUptoRow : OpenClaim := { program := "ytiiolpchefldlaa", sum := "5ad05ce836f065b787b216324f42112d1d345a4a5c3715daf817be658bc236f9", func := "stemma/stemmalaw10.DeltaPieces", spec := "deltaPieces", inPlace := ["internal/bytealg.IndexByte", "internal/bytealg.Index"], named := ["internal/bytealg.MaxLen"], apart := false, narrowed := true }
def DeltaPiecesUptoSaid : Prop := deltaPiecesUptoRow.holds Try.pinned (OpenSpec.upto deltaPiecesSpec)

/-- 'stemmalaw10.DeltaChains', WHERE WHAT IT READS IS OF BULK AT MOST 1048576: true; the input reads as it did. -/
def deltaChainsUptoRow : OpenClaim := { program := "ytiiolpchefldlaa", sum := "5ad05ce836f065b787b216324f42112d1d345a4a5c3715daf817be658bc236f9", func := "stemma/stemmalaw10.DeltaChains", spec := "deltaChains", inPlace := ["internal/bytealg.IndexByte", "internal/bytealg.Index"], named := ["internal/bytealg.MaxLen"], apart := false, narrowed := true }
def DeltaChainsUptoSaid : Prop := deltaChainsUptoRow.holds Try.pinned (OpenSpec.upto deltaChainsSpec)

/-- 'stemmalaw10.DeltaCopies', WHERE WHAT IT READS IS OF BULK AT MOST 1048576: true; the input reads as it did. -/
def deltaCopiesUptoRow : OpenClaim := { program := "ytiiolpchefldlaa", sum := "5ad05ce836f065b787b216324f42112d1d345a4a5c3715daf817be658bc236f9", func := "stemma/stemmalaw10.DeltaCopies", spec := "deltaCopies", apart := false, narrowed := true }
def DeltaCopiesUptoSaid : Prop := deltaCopiesUptoRow.holds Try.pinned (OpenSpec.upto deltaCopiesSpec)

/-- 'stemmalaw10.DeltaNumbers', WHERE WHAT IT READS IS OF BULK AT MOST 1048576: true; the input reads as it did. -/
def deltaNumbersUptoRow : OpenClaim := { program := "ytiiolpchefldlaa", sum := "5ad05ce836f065b787b216324f42112d1d345a4a5c3715daf817be658bc236f9", func := "stemma/stemmalaw10.DeltaNumbers", spec := "deltaNumbers", apart := false, narrowed := true }
def DeltaNumbersUptoSaid : Prop := deltaNumbersUptoRow.holds Try.pinned (OpenSpec.upto deltaNumbersSpec)

/-- 'stemmalaw10.DeltaMakes', WHERE WHAT IT READS IS OF BULK AT MOST 1048576: true; the input reads as it did. -/
def deltaMakesUptoRow : OpenClaim := { program := "ytiiolpchefldlaa", sum := "5ad05ce836f065b787b216324f42112d1d345a4a5c3715daf817be658bc236f9", func := "stemma/stemmalaw10.DeltaMakes", spec := "deltaMakes", inPlace := ["internal/bytealg.IndexByte", "internal/bytealg.Index"], named := ["internal/bytealg.MaxLen"], apart := false, narrowed := true }
def DeltaMakesUptoSaid : Prop := deltaMakesUptoRow.holds Try.pinned (OpenSpec.upto deltaMakesSpec)

end Rows
end Go.Proofs.Ytiiolpchefldlaa
