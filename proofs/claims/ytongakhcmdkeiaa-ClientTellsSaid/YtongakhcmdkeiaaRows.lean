/-
  No cell of these rows narrows 'for every input' (looked for: loops, veiled, ifaces, maps, wideKeys, modest, calm, conditions, laid).
  DERIVED. THE GIVEN ROWS OF THIS SEAT. 5 by the template 'for every input the law returns true; each argument reads behind the call as it read before'; 0 by the template 'total and deterministic' (their statements: YtongakhcmdkeiaaTotals.lean).
  GIVEN WITH THE SEED: the statements are not yours to turn. If you find one false, say at which input.
  Laid BY PROGRAM, IN A SANDBOX (cutbox-rows.mjs): the forced cells as the released guide's own fill.sh prints them over the translation 549b75ddd7214463… (all of the seat's roots in one cut). By AI agents, Wed Nov 11 2026. No macro, syntax, notation, axiom, sorry.
-/
import Derived.Test.YtongakhcmdkeiaaChecked
import GoSem.Claim
import GoSem.ClaimJoined
import GoSem.ClaimMapViews
import Derived.JoinedTies
import Derived.KernelRfl
namespace Go.Proofs.Ytongakhcmdkeiaa
/- THE CELL 'sum', in the pinned program and in every row, IS THE sha256 OF THE DUMP (.gsa) THAT YtongakhcmdkeiaaProg.lean LOADS. Nothing in Lean hashes anything: it is a label: what it is worth is what the hold of that sum in a sandbox is worth. -/
noncomputable def Try.pinned : Pinned := { name := "ytongakhcmdkeiaa", sum := "549b75ddd7214463b8969e3f6ce5dc564d9b51ba4558590df7b45bb95949c8fc", checked := Try.checked }
namespace Rows
def none {H : Type} : Left H := { results := [], args := [] }

/-- 'hectographlaw7.ClientBack': WHATEVER THE INPUT: true; the input reads as it did. -/
def clientBackSpec : ChangeSpec := { name := "clientBack", fn := fun _ => fun
  | [d1, d2] => { results := [.lit (.bool true)], args := [d1, d2] }
  | _ => none }
def clientBackRow : OpenClaim := { program := "ytongakhcmdkeiaa", sum := "549b75ddd7214463b8969e3f6ce5dc564d9b51ba4558590df7b45bb95949c8fc", func := "hectograph/hectographlaw7.ClientBack", spec := "clientBack", inPlace := ["slices.overlaps[hectograph/api.Client]"], apart := false }
def ClientBackSaid : Prop := clientBackRow.holds Try.pinned (OpenSpec.ofChange clientBackSpec)

/-- ITS FALSE NEIGHBOUR: 'it returns false'. Refute it at one input. -/
def clientBackWrong : ChangeSpec := { name := "clientBack", fn := fun _ => fun
  | [d1, d2] => { results := [.lit (.bool false)], args := [d1, d2] }
  | _ => none }
def ClientBackWrongFalsely : Prop := clientBackRow.holds Try.pinned (OpenSpec.ofChange clientBackWrong)

/-- 'hectographlaw7.ClientTells': WHATEVER THE INPUT: true; the input reads as it did. -/
def clientTellsSpec : ChangeSpec := { name := "clientTells", fn := fun _ => fun
  | [d1, d2, d3] => { results := [.lit (.bool true)], args := [d1, d2, d3] }
  | _ => none }
def clientTellsRow : OpenClaim := { program := "ytongakhcmdkeiaa", sum := "549b75ddd7214463b8969e3f6ce5dc564d9b51ba4558590df7b45bb95949c8fc", func := "hectograph/hectographlaw7.ClientTells", spec := "clientTells", inPlace := ["slices.overlaps[hectograph/api.Client]"], apart := false }
def ClientTellsSaid : Prop := clientTellsRow.holds Try.pinned (OpenSpec.ofChange clientTellsSpec)

/-- ITS FALSE NEIGHBOUR: 'it returns false'. Refute it at one input. -/
def clientTellsWrong : ChangeSpec := { name := "clientTells", fn := fun _ => fun
  | [d1, d2, d3] => { results := [.lit (.bool false)], args := [d1, d2, d3] }
  | _ => none }
def ClientTellsWrongFalsely : Prop := clientTellsRow.holds Try.pinned (OpenSpec.ofChange clientTellsWrong)

/-- 'hectographlaw7.ClientFull': WHATEVER THE INPUT: true; the input reads as it did. -/
def clientFullSpec : ChangeSpec := { name := "clientFull", fn := fun _ => fun
  | [d1, d2] => { results := [.lit (.bool true)], args := [d1, d2] }
  | _ => none }
def clientFullRow : OpenClaim := { program := "ytongakhcmdkeiaa", sum := "549b75ddd7214463b8969e3f6ce5dc564d9b51ba4558590df7b45bb95949c8fc", func := "hectograph/hectographlaw7.ClientFull", spec := "clientFull", inPlace := ["slices.overlaps[hectograph/api.Client]"], apart := false }
def ClientFullSaid : Prop := clientFullRow.holds Try.pinned (OpenSpec.ofChange clientFullSpec)

/-- ITS FALSE NEIGHBOUR: 'it returns false'. Refute it at one input. -/
def clientFullWrong : ChangeSpec := { name := "clientFull", fn := fun _ => fun
  | [d1, d2] => { results := [.lit (.bool false)], args := [d1, d2] }
  | _ => none }
def ClientFullWrongFalsely : Prop := clientFullRow.holds Try.pinned (OpenSpec.ofChange clientFullWrong)

/-- 'hectographlaw7.ClientPlays': WHATEVER THE INPUT: true; the input reads as it did. -/
def clientPlaysSpec : ChangeSpec := { name := "clientPlays", fn := fun _ => fun
  | [d] => { results := [.lit (.bool true)], args := [d] }
  | _ => none }
def clientPlaysRow : OpenClaim := { program := "ytongakhcmdkeiaa", sum := "549b75ddd7214463b8969e3f6ce5dc564d9b51ba4558590df7b45bb95949c8fc", func := "hectograph/hectographlaw7.ClientPlays", spec := "clientPlays", inPlace := ["slices.overlaps[hectograph/api.Client]"], apart := false }
def ClientPlaysSaid : Prop := clientPlaysRow.holds Try.pinned (OpenSpec.ofChange clientPlaysSpec)

/-- ITS FALSE NEIGHBOUR: 'it returns false'. Refute it at one input. -/
def clientPlaysWrong : ChangeSpec := { name := "clientPlays", fn := fun _ => fun
  | [d] => { results := [.lit (.bool false)], args := [d] }
  | _ => none }
def ClientPlaysWrongFalsely : Prop := clientPlaysRow.holds Try.pinned (OpenSpec.ofChange clientPlaysWrong)

/-- 'hectographlaw7.ClientWaits': WHATEVER THE INPUT: true; the input reads as it did. -/
def clientWaitsSpec : ChangeSpec := { name := "clientWaits", fn := fun _ => fun
  | [d1, d2, d3] => { results := [.lit (.bool true)], args := [d1, d2, d3] }
  | _ => none }
def clientWaitsRow : OpenClaim := { program := "ytongakhcmdkeiaa", sum := "549b75ddd7214463b8969e3f6ce5dc564d9b51ba4558590df7b45bb95949c8fc", func := "hectograph/hectographlaw7.ClientWaits", spec := "clientWaits", inPlace := ["slices.overlaps[hectograph/api.Client]"], apart := false }
def ClientWaitsSaid : Prop := clientWaitsRow.holds Try.pinned (OpenSpec.ofChange clientWaitsSpec)

/-- ITS FALSE NEIGHBOUR: 'it returns false'. Refute it at one input. -/
def clientWaitsWrong : ChangeSpec := { name := "clientWaits", fn := fun _ => fun
  | [d1, d2, d3] => { results := [.lit (.bool false)], args := [d1, d2, d3] }
  | _ => none }
def ClientWaitsWrongFalsely : Prop := clientWaitsRow.holds Try.pinned (OpenSpec.ofChange clientWaitsWrong)

/- THE SECOND FORM. 'bulk': how many values and letters a reading holds, each counted each time it is reached (what is shared counts as often as it is met; a slice's spare places count too). A statement '..UptoSaid' is the law's where the arguments, and the package variables that the reading takes, are together of bulk at most 1048576: NARROWER than '..Said'. Prove '..Said' where nothing that the law and all that it calls make is longer than what came in: it says more and counts as full. Else prove '..UptoSaid'. A law counts once. -/
mutual
def uptoBulk {H : Type} : DataW H → Nat
  | .lit (.string bytes) => bytes.length + 1
  | .lit _ => 1
  | .nil => 1
  | .ptr d => uptoBulk d + 1
  | .slice elems spare => uptoBulkAll elems + uptoBulkAll spare + 1
  | .agg parts => uptoBulkAll parts + 1
  | .iface _ d => uptoBulk d + 1
  | .map entries => uptoBulkEntries entries + 1
  | .held _ => 1
def uptoBulkAll {H : Type} : List (DataW H) → Nat
  | [] => 0
  | d :: r => uptoBulk d + uptoBulkAll r
def uptoBulkEntries {H : Type} : List (Lit × DataW H) → Nat
  | [] => 0
  | x :: r => uptoBulkEntry x + uptoBulkEntries r
def uptoBulkEntry {H : Type} : Lit × DataW H → Nat
  | (.string bytes, d) => bytes.length + uptoBulk d + 1
  | (_, d) => uptoBulk d + 1
 end
def uptoSmall : (H : Type) → List (DataW H) → Bool := fun _ ds => decide (uptoBulkAll ds ≤ 1048576)
def OpenSpec.upto (s : _root_.Go.ChangeSpec) : _root_.Go.OpenSpec := { _root_.Go.OpenSpec.ofChange s with cond := some uptoSmall }

/-- 'hectographlaw7.ClientBack', WHERE WHAT IT READS IS OF BULK AT MOST 1048576: true; the input reads as it did. -/
def clientBackUptoRow : OpenClaim := { program := "ytongakhcmdkeiaa", sum := "549b75ddd7214463b8969e3f6ce5dc564d9b51ba4558590df7b45bb95949c8fc", func := "hectograph/hectographlaw7.ClientBack", spec := "clientBack", inPlace := ["slices.overlaps[hectograph/api.Client]"], apart := false, narrowed := true }
def ClientBackUptoSaid : Prop := clientBackUptoRow.holds Try.pinned (OpenSpec.upto clientBackSpec)

/-- 'hectographlaw7.ClientTells', WHERE WHAT IT READS IS OF BULK AT MOST 1048576: true; the input reads as it did. -/
def clientTellsUptoRow : OpenClaim := { program := "ytongakhcmdkeiaa", sum := "549b75ddd7214463b8969e3f6ce5dc564d9b51ba4558590df7b45bb95949c8fc", func := "hectograph/hectographlaw7.ClientTells", spec := "clientTells", inPlace := ["slices.overlaps[hectograph/api.Client]"], apart := false, narrowed := true }
def ClientTellsUptoSaid : Prop := clientTellsUptoRow.holds Try.pinned (OpenSpec.upto clientTellsSpec)

/-- 'hectographlaw7.ClientFull', WHERE WHAT IT READS IS OF BULK AT MOST 1048576: true; the input reads as it did. -/
def clientFullUptoRow : OpenClaim := { program := "ytongakhcmdkeiaa", sum := "549b75ddd7214463b8969e3f6ce5dc564d9b51ba4558590df7b45bb95949c8fc", func := "hectograph/hectographlaw7.ClientFull", spec := "clientFull", inPlace := ["slices.overlaps[hectograph/api.Client]"], apart := false, narrowed := true }
def ClientFullUptoSaid : Prop := clientFullUptoRow.holds Try.pinned (OpenSpec.upto clientFullSpec)

/-- 'hectographlaw7.ClientPlays', WHERE WHAT IT READS IS OF BULK AT MOST 1048576: true; the input reads as it did. -/
def clientPlaysUptoRow : OpenClaim := { program := "ytongakhcmdkeiaa", sum := "549b75ddd7214463b8969e3f6ce5dc564d9b51ba4558590df7b45bb95949c8fc", func := "hectograph/hectographlaw7.ClientPlays", spec := "clientPlays", inPlace := ["slices.overlaps[hectograph/api.Client]"], apart := false, narrowed := true }
def ClientPlaysUptoSaid : Prop := clientPlaysUptoRow.holds Try.pinned (OpenSpec.upto clientPlaysSpec)

/-- 'hectographlaw7.ClientWaits', WHERE WHAT IT READS IS OF BULK AT MOST 1048576: true; the input reads as it did. -/
def clientWaitsUptoRow : OpenClaim := { program := "ytongakhcmdkeiaa", sum := "549b75ddd7214463b8969e3f6ce5dc564d9b51ba4558590df7b45bb95949c8fc", func := "hectograph/hectographlaw7.ClientWaits", spec := "clientWaits", inPlace := ["slices.overlaps[hectograph/api.Client]"], apart := false, narrowed := true }
def ClientWaitsUptoSaid : Prop := clientWaitsUptoRow.holds Try.pinned (OpenSpec.upto clientWaitsSpec)

end Rows
end Go.Proofs.Ytongakhcmdkeiaa
