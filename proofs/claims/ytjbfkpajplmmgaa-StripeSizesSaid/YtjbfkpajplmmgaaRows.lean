/-
  No cell of these rows narrows 'for every input' (looked for: loops, veiled, ifaces, maps, wideKeys, modest, calm, conditions, laid).
  DERIVED. THE GIVEN ROWS OF THIS SEAT. 5 by the template 'for every input the law returns true; each argument reads behind the call as it read before'; 0 by the template 'total and deterministic' (their statements: YtjbfkpajplmmgaaTotals.lean).
  GIVEN WITH THE SEED: the statements are not yours to turn. If you find one false, say at which input.
  Laid BY PROGRAM, IN A SANDBOX (cutbox-rows.mjs): the forced cells as the released guide's own fill.sh prints them over the translation 772c06915204e1ad… (all of the seat's roots in one cut). By AI agents, Wed Nov 11 2026. No macro, syntax, notation, axiom, sorry.
-/
import Derived.Test.YtjbfkpajplmmgaaChecked
import GoSem.Claim
import GoSem.ClaimJoined
import GoSem.ClaimMapViews
import Derived.JoinedTies
import Derived.KernelRfl
namespace Go.Proofs.Ytjbfkpajplmmgaa
/- THE CELL 'sum', in the pinned program and in every row, IS THE sha256 OF THE DUMP (.gsa) THAT YtjbfkpajplmmgaaProg.lean LOADS. Nothing in Lean hashes anything: it is a label: what it is worth is what the hold of that sum in a sandbox is worth. -/
noncomputable def Try.pinned : Pinned := { name := "ytjbfkpajplmmgaa", sum := "772c06915204e1ad26504359750e8543f864e1de1526e40e908e35049e871a49", checked := Try.checked }
namespace Rows
def none {H : Type} : Left H := { results := [], args := [] }

/-- 'hectographlaw12.StripeShapes': WHATEVER THE INPUT: true; the input reads as it did. -/
def stripeShapesSpec : ChangeSpec := { name := "stripeShapes", fn := fun _ => fun
  | [d1, d2, d3, d4, d5, d6] => { results := [.lit (.bool true)], args := [d1, d2, d3, d4, d5, d6] }
  | _ => none }
def stripeShapesRow : OpenClaim := { program := "ytjbfkpajplmmgaa", sum := "772c06915204e1ad26504359750e8543f864e1de1526e40e908e35049e871a49", func := "hectograph/hectographlaw12.StripeShapes", spec := "stripeShapes", apart := false }
def StripeShapesSaid : Prop := stripeShapesRow.holds Try.pinned (OpenSpec.ofChange stripeShapesSpec)

/-- ITS FALSE NEIGHBOUR: 'it returns false'. Refute it at one input. -/
def stripeShapesWrong : ChangeSpec := { name := "stripeShapes", fn := fun _ => fun
  | [d1, d2, d3, d4, d5, d6] => { results := [.lit (.bool false)], args := [d1, d2, d3, d4, d5, d6] }
  | _ => none }
def StripeShapesWrongFalsely : Prop := stripeShapesRow.holds Try.pinned (OpenSpec.ofChange stripeShapesWrong)

/-- 'hectographlaw12.StripePieces': WHATEVER THE INPUT: true; the input reads as it did. -/
def stripePiecesSpec : ChangeSpec := { name := "stripePieces", fn := fun _ => fun
  | [d1, d2, d3, d4, d5] => { results := [.lit (.bool true)], args := [d1, d2, d3, d4, d5] }
  | _ => none }
def stripePiecesRow : OpenClaim := { program := "ytjbfkpajplmmgaa", sum := "772c06915204e1ad26504359750e8543f864e1de1526e40e908e35049e871a49", func := "hectograph/hectographlaw12.StripePieces", spec := "stripePieces", apart := false }
def StripePiecesSaid : Prop := stripePiecesRow.holds Try.pinned (OpenSpec.ofChange stripePiecesSpec)

/-- ITS FALSE NEIGHBOUR: 'it returns false'. Refute it at one input. -/
def stripePiecesWrong : ChangeSpec := { name := "stripePieces", fn := fun _ => fun
  | [d1, d2, d3, d4, d5] => { results := [.lit (.bool false)], args := [d1, d2, d3, d4, d5] }
  | _ => none }
def StripePiecesWrongFalsely : Prop := stripePiecesRow.holds Try.pinned (OpenSpec.ofChange stripePiecesWrong)

/-- 'hectographlaw12.StripeSizes': WHATEVER THE INPUT: true; the input reads as it did. -/
def stripeSizesSpec : ChangeSpec := { name := "stripeSizes", fn := fun _ => fun
  | [d1, d2, d3, d4] => { results := [.lit (.bool true)], args := [d1, d2, d3, d4] }
  | _ => none }
def stripeSizesRow : OpenClaim := { program := "ytjbfkpajplmmgaa", sum := "772c06915204e1ad26504359750e8543f864e1de1526e40e908e35049e871a49", func := "hectograph/hectographlaw12.StripeSizes", spec := "stripeSizes", apart := false }
def StripeSizesSaid : Prop := stripeSizesRow.holds Try.pinned (OpenSpec.ofChange stripeSizesSpec)

/-- ITS FALSE NEIGHBOUR: 'it returns false'. Refute it at one input. -/
def stripeSizesWrong : ChangeSpec := { name := "stripeSizes", fn := fun _ => fun
  | [d1, d2, d3, d4] => { results := [.lit (.bool false)], args := [d1, d2, d3, d4] }
  | _ => none }
def StripeSizesWrongFalsely : Prop := stripeSizesRow.holds Try.pinned (OpenSpec.ofChange stripeSizesWrong)

/-- 'hectographlaw12.StripeOne': WHATEVER THE INPUT: true; the input reads as it did. -/
def stripeOneSpec : ChangeSpec := { name := "stripeOne", fn := fun _ => fun
  | [d1, d2, d3] => { results := [.lit (.bool true)], args := [d1, d2, d3] }
  | _ => none }
def stripeOneRow : OpenClaim := { program := "ytjbfkpajplmmgaa", sum := "772c06915204e1ad26504359750e8543f864e1de1526e40e908e35049e871a49", func := "hectograph/hectographlaw12.StripeOne", spec := "stripeOne", apart := false }
def StripeOneSaid : Prop := stripeOneRow.holds Try.pinned (OpenSpec.ofChange stripeOneSpec)

/-- ITS FALSE NEIGHBOUR: 'it returns false'. Refute it at one input. -/
def stripeOneWrong : ChangeSpec := { name := "stripeOne", fn := fun _ => fun
  | [d1, d2, d3] => { results := [.lit (.bool false)], args := [d1, d2, d3] }
  | _ => none }
def StripeOneWrongFalsely : Prop := stripeOneRow.holds Try.pinned (OpenSpec.ofChange stripeOneWrong)

/-- 'hectographlaw12.StripeTells': WHATEVER THE INPUT: true; the input reads as it did. -/
def stripeTellsSpec : ChangeSpec := { name := "stripeTells", fn := fun _ => fun
  | [d1, d2, d3, d4, d5] => { results := [.lit (.bool true)], args := [d1, d2, d3, d4, d5] }
  | _ => none }
def stripeTellsRow : OpenClaim := { program := "ytjbfkpajplmmgaa", sum := "772c06915204e1ad26504359750e8543f864e1de1526e40e908e35049e871a49", func := "hectograph/hectographlaw12.StripeTells", spec := "stripeTells", apart := false }
def StripeTellsSaid : Prop := stripeTellsRow.holds Try.pinned (OpenSpec.ofChange stripeTellsSpec)

/-- ITS FALSE NEIGHBOUR: 'it returns false'. Refute it at one input. -/
def stripeTellsWrong : ChangeSpec := { name := "stripeTells", fn := fun _ => fun
  | [d1, d2, d3, d4, d5] => { results := [.lit (.bool false)], args := [d1, d2, d3, d4, d5] }
  | _ => none }
def StripeTellsWrongFalsely : Prop := stripeTellsRow.holds Try.pinned (OpenSpec.ofChange stripeTellsWrong)

/- THE SECOND FORM. 'bulk': how many values and letters a reading holds, each counted each time it is reached (what is shared counts as often as it is met; a slice's spare places count too). A statement '..UptoSaid' is the law's where the arguments, and the package variables that the reading takes, are together of bulk at most 1048576: NARROWER than '..Said'. Prove '..Said' where nothing that the law and all that it calls make is longer than what came in: it says more and counts as full. Else prove '..UptoSaid'. A law counts once. -/
mutual
def uptoBulk {H : Type} : DataW H → Nat
  | .lit (.string bytes) => bytes.length + 1
  | .lit _ => 1
  | .nil => 1
  | .ptr d => uptoBulk d + 1
  | .slice elems spare => uptoBulkAll elems + uptoBulkAll spare + 1
  | .agg parts => uptoBulkAll parts + 1
  | .iface _ d => uptoBulk d + 1
  | .map entries => uptoBulkEntries entries + 1
  | .held _ => 1
def uptoBulkAll {H : Type} : List (DataW H) → Nat
  | [] => 0
  | d :: r => uptoBulk d + uptoBulkAll r
def uptoBulkEntries {H : Type} : List (Lit × DataW H) → Nat
  | [] => 0
  | x :: r => uptoBulkEntry x + uptoBulkEntries r
def uptoBulkEntry {H : Type} : Lit × DataW H → Nat
  | (.string bytes, d) => bytes.length + uptoBulk d + 1
  | (_, d) => uptoBulk d + 1
 end
def uptoSmall : (H : Type) → List (DataW H) → Bool := fun _ ds => decide (uptoBulkAll ds ≤ 1048576)
def OpenSpec.upto (s : _root_.Go.ChangeSpec) : _root_.Go.OpenSpec := { _root_.Go.OpenSpec.ofChange s with cond := some uptoSmall }

/-- 'hectographlaw12.StripeShapes', WHERE WHAT IT READS IS OF BULK AT MOST 1048576: true; the input reads as it did. -/
def stripeShapesUptoRow : OpenClaim := { program := "ytjbfkpajplmmgaa", sum := "772c06915204e1ad26504359750e8543f864e1de1526e40e908e35049e871a49", func := "hectograph/hectographlaw12.StripeShapes", spec := "stripeShapes", apart := false, narrowed := true }
def StripeShapesUptoSaid : Prop := stripeShapesUptoRow.holds Try.pinned (OpenSpec.upto stripeShapesSpec)

/-- 'hectographlaw12.StripePieces', WHERE WHAT IT READS IS OF BULK AT MOST 1048576: true; the input reads as it did. -/
def stripePiecesUptoRow : OpenClaim := { program := "ytjbfkpajplmmgaa", sum := "772c06915204e1ad26504359750e8543f864e1de1526e40e908e35049e871a49", func := "hectograph/hectographlaw12.StripePieces", spec := "stripePieces", apart := false, narrowed := true }
def StripePiecesUptoSaid : Prop := stripePiecesUptoRow.holds Try.pinned (OpenSpec.upto stripePiecesSpec)

/-- 'hectographlaw12.StripeSizes', WHERE WHAT IT READS IS OF BULK AT MOST 1048576: true; the input reads as it did. -/
def stripeSizesUptoRow : OpenClaim := { program := "ytjbfkpajplmmgaa", sum := "772c06915204e1ad26504359750e8543f864e1de1526e40e908e35049e871a49", func := "hectograph/hectographlaw12.StripeSizes", spec := "stripeSizes", apart := false, narrowed := true }
def StripeSizesUptoSaid : Prop := stripeSizesUptoRow.holds Try.pinned (OpenSpec.upto stripeSizesSpec)

/-- 'hectographlaw12.StripeOne', WHERE WHAT IT READS IS OF BULK AT MOST 1048576: true; the input reads as it did. -/
def stripeOneUptoRow : OpenClaim := { program := "ytjbfkpajplmmgaa", sum := "772c06915204e1ad26504359750e8543f864e1de1526e40e908e35049e871a49", func := "hectograph/hectographlaw12.StripeOne", spec := "stripeOne", apart := false, narrowed := true }
def StripeOneUptoSaid : Prop := stripeOneUptoRow.holds Try.pinned (OpenSpec.upto stripeOneSpec)

/-- 'hectographlaw12.StripeTells', WHERE WHAT IT READS IS OF BULK AT MOST 1048576: true; the input reads as it did. -/
def stripeTellsUptoRow : OpenClaim := { program := "ytjbfkpajplmmgaa", sum := "772c06915204e1ad26504359750e8543f864e1de1526e40e908e35049e871a49", func := "hectograph/hectographlaw12.StripeTells", spec := "stripeTells", apart := false, narrowed := true }
def StripeTellsUptoSaid : Prop := stripeTellsUptoRow.holds Try.pinned (OpenSpec.upto stripeTellsSpec)

end Rows
end Go.Proofs.Ytjbfkpajplmmgaa
