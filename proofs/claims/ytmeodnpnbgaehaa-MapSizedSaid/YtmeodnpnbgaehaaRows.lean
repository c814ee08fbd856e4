/-
  No cell of these rows narrows 'for every input' (looked for: loops, veiled, ifaces, maps, wideKeys, modest, calm, conditions, laid).
  DERIVED. THE GIVEN ROWS OF THIS SEAT. 4 by the template 'for every input the law returns true; each argument reads behind the call as it read before'; 0 by the template 'total and deterministic' (their statements: YtmeodnpnbgaehaaTotals.lean).
  GIVEN WITH THE SEED: the statements are not yours to turn. If you find one false, say at which input.
  Laid BY PROGRAM, IN A SANDBOX (cutbox-rows.mjs): the forced cells as the released guide's own fill.sh prints them over the translation 959bd6239733dacd… (all of the seat's roots in one cut). By AI agents, Wed Nov 11 2026. No macro, syntax, notation, axiom, sorry.
-/
import Derived.Test.YtmeodnpnbgaehaaChecked
import GoSem.Claim
import GoSem.ClaimJoined
import GoSem.ClaimMapViews
import Derived.JoinedTies
import Derived.KernelRfl
namespace Go.Proofs.Ytmeodnpnbgaehaa
/- THE CELL 'sum', in the pinned program and in every row, IS THE sha256 OF THE DUMP (.gsa) THAT YtmeodnpnbgaehaaProg.lean LOADS. Nothing in Lean hashes anything: it is a label: what it is worth is what the hold of that sum in a sandbox is worth. -/
noncomputable def Try.pinned : Pinned := { name := "ytmeodnpnbgaehaa", sum := "959bd6239733dacd01c69c19b34ca278c8bbd5eb7f195d2c905cf2425d89c152", checked := Try.checked }
namespace Rows
def none {H : Type} : Left H := { results := [], args := [] }

/-- 'hectographlaw13.MapBack': WHATEVER THE INPUT: true; the input reads as it did. -/
def mapBackSpec : ChangeSpec := { name := "mapBack", fn := fun _ => fun
  | [d1, d2, d3] => { results := [.lit (.bool true)], args := [d1, d2, d3] }
  | _ => none }
def mapBackRow : OpenClaim := { program := "ytmeodnpnbgaehaa", sum := "959bd6239733dacd01c69c19b34ca278c8bbd5eb7f195d2c905cf2425d89c152", func := "hectograph/hectographlaw13.MapBack", spec := "mapBack", apart := false }
def MapBackSaid : Prop := mapBackRow.holds Try.pinned (OpenSpec.ofChange mapBackSpec)

/-- ITS FALSE NEIGHBOUR: 'it returns false'. Refute it at one input. -/
def mapBackWrong : ChangeSpec := { name := "mapBack", fn := fun _ => fun
  | [d1, d2, d3] => { results := [.lit (.bool false)], args := [d1, d2, d3] }
  | _ => none }
def MapBackWrongFalsely : Prop := mapBackRow.holds Try.pinned (OpenSpec.ofChange mapBackWrong)

/-- 'hectographlaw13.MapSized': WHATEVER THE INPUT: true; the input reads as it did. -/
def mapSizedSpec : ChangeSpec := { name := "mapSized", fn := fun _ => fun
  | [d1, d2, d3] => { results := [.lit (.bool true)], args := [d1, d2, d3] }
  | _ => none }
def mapSizedRow : OpenClaim := { program := "ytmeodnpnbgaehaa", sum := "959bd6239733dacd01c69c19b34ca278c8bbd5eb7f195d2c905cf2425d89c152", func := "hectograph/hectographlaw13.MapSized", spec := "mapSized", apart := false }
def MapSizedSaid : Prop := mapSizedRow.holds Try.pinned (OpenSpec.ofChange mapSizedSpec)

/-- ITS FALSE NEIGHBOUR: 'it returns false'. Refute it at one input. -/
def mapSizedWrong : ChangeSpec := { name := "mapSized", fn := fun _ => fun
  | [d1, d2, d3] => { results := [.lit (.bool false)], args := [d1, d2, d3] }
  | _ => none }
def MapSizedWrongFalsely : Prop := mapSizedRow.holds Try.pinned (OpenSpec.ofChange mapSizedWrong)

/-- 'hectographlaw13.MapDiffs': WHATEVER THE INPUT: true; the input reads as it did. -/
def mapDiffsSpec : ChangeSpec := { name := "mapDiffs", fn := fun _ => fun
  | [d1, d2] => { results := [.lit (.bool true)], args := [d1, d2] }
  | _ => none }
def mapDiffsRow : OpenClaim := { program := "ytmeodnpnbgaehaa", sum := "959bd6239733dacd01c69c19b34ca278c8bbd5eb7f195d2c905cf2425d89c152", func := "hectograph/hectographlaw13.MapDiffs", spec := "mapDiffs", apart := false }
def MapDiffsSaid : Prop := mapDiffsRow.holds Try.pinned (OpenSpec.ofChange mapDiffsSpec)

/-- ITS FALSE NEIGHBOUR: 'it returns false'. Refute it at one input. -/
def mapDiffsWrong : ChangeSpec := { name := "mapDiffs", fn := fun _ => fun
  | [d1, d2] => { results := [.lit (.bool false)], args := [d1, d2] }
  | _ => none }
def MapDiffsWrongFalsely : Prop := mapDiffsRow.holds Try.pinned (OpenSpec.ofChange mapDiffsWrong)

/-- 'hectographlaw13.MapFrozen': WHATEVER THE INPUT: true; the input reads as it did. -/
def mapFrozenSpec : ChangeSpec := { name := "mapFrozen", fn := fun _ => fun
  | [d1, d2] => { results := [.lit (.bool true)], args := [d1, d2] }
  | _ => none }
def mapFrozenRow : OpenClaim := { program := "ytmeodnpnbgaehaa", sum := "959bd6239733dacd01c69c19b34ca278c8bbd5eb7f195d2c905cf2425d89c152", func := "hectograph/hectographlaw13.MapFrozen", spec := "mapFrozen", apart := false }
def MapFrozenSaid : Prop := mapFrozenRow.holds Try.pinned (OpenSpec.ofChange mapFrozenSpec)

/-- ITS FALSE NEIGHBOUR: 'it returns false'. Refute it at one input. -/
def mapFrozenWrong : ChangeSpec := { name := "mapFrozen", fn := fun _ => fun
  | [d1, d2] => { results := [.lit (.bool false)], args := [d1, d2] }
  | _ => none }
def MapFrozenWrongFalsely : Prop := mapFrozenRow.holds Try.pinned (OpenSpec.ofChange mapFrozenWrong)

/- THE SECOND FORM. 'bulk': how many values and letters a reading holds, each counted each time it is reached (what is shared counts as often as it is met; a slice's spare places count too). A statement '..UptoSaid' is the law's where the arguments, and the package variables that the reading takes, are together of bulk at most 1048576: NARROWER than '..Said'. Prove '..Said' where nothing that the law and all that it calls make is longer than what came in: it says more and counts as full. Else prove '..UptoSaid'. A law counts once. -/
mutual
def uptoBulk {H : Type} : DataW H → Nat
  | .lit (.string bytes) => bytes.length + 1
  | .lit _ => 1
  | .nil => 1
  | .ptr d => uptoBulk d + 1
  | .slice elems spare => uptoBulkAll elems + uptoBulkAll spare + 1
  | .agg parts => uptoBulkAll parts + 1
  | .iface _ d => uptoBulk d + 1
  | .map entries => uptoBulkEntries entries + 1
  | .held _ => 1
def uptoBulkAll {H : Type} : List (DataW H) → Nat
  | [] => 0
  | d :: r => uptoBulk d + uptoBulkAll r
def uptoBulkEntries {H : Type} : List (Lit × DataW H) → Nat
  | [] => 0
  | x :: r => uptoBulkEntry x + uptoBulkEntries r
def uptoBulkEntry {H : Type} : Lit × DataW H → Nat
  | (.string bytes, d) => bytes.length + uptoBulk d + 1
  | (_, d) => uptoBulk d + 1
 end
def uptoSmall : (H : Type) → List (DataW H) → Bool := fun _ ds => decide (uptoBulkAll ds ≤ 1048576)
def OpenSpec.upto (s : _root_.Go.ChangeSpec) : _root_.Go.OpenSpec := { _root_.Go.OpenSpec.ofChange s with cond := some uptoSmall }

/-- 'hectographlaw13.MapBack', WHERE WHAT IT READS IS OF BULK AT MOST 1048576: true; the input reads as it did. -/
def mapBackUptoRow : OpenClaim := { program := "ytmeodnpnbgaehaa", sum := "959bd6239733dacd01c69c19b34ca278c8bbd5eb7f195d2c905cf2425d89c152", func := "hectograph/hectographlaw13.MapBack", spec := "mapBack", apart := false, narrowed := true }
def MapBackUptoSaid : Prop := mapBackUptoRow.holds Try.pinned (OpenSpec.upto mapBackSpec)

/-- 'hectographlaw13.MapSized', WHERE WHAT IT READS IS OF BULK AT MOST 1048576: true; the input reads as it did. -/
def mapSizedUptoRow : OpenClaim := { program := "ytmeodnpnbgaehaa", sum := "959bd6239733dacd01c69c19b34ca278c8bbd5eb7f195d2c905cf2425d89c152", func := "hectograph/hectographlaw13.MapSized", spec := "mapSized", apart := false, narrowed := true }
def MapSizedUptoSaid : Prop := mapSizedUptoRow.holds Try.pinned (OpenSpec.upto mapSizedSpec)

/-- 'hectographlaw13.MapDiffs', WHERE WHAT IT READS IS OF BULK AT MOST 1048576: true; the input reads as it did. -/
def mapDiffsUptoRow : OpenClaim := { program := "ytmeodnpnbgaehaa", sum := "959bd6239733dacd01c69c19b34ca278c8bbd5eb7f195d2c905cf2425d89c152", func := "hectograph/hectographlaw13.MapDiffs", spec := "mapDiffs", apart := false, narrowed := true }
def MapDiffsUptoSaid : Prop := mapDiffsUptoRow.holds Try.pinned (OpenSpec.upto mapDiffsSpec)

/-- 'hectographlaw13.MapFrozen', WHERE WHAT IT READS IS OF BULK AT MOST 1048576: true; the input reads as it did. -/
def mapFrozenUptoRow : OpenClaim := { program := "ytmeodnpnbgaehaa", sum := "959bd6239733dacd01c69c19b34ca278c8bbd5eb7f195d2c905cf2425d89c152", func := "hectograph/hectographlaw13.MapFrozen", spec := "mapFrozen", apart := false, narrowed := true }
def MapFrozenUptoSaid : Prop := mapFrozenUptoRow.holds Try.pinned (OpenSpec.upto mapFrozenSpec)

end Rows
end Go.Proofs.Ytmeodnpnbgaehaa
