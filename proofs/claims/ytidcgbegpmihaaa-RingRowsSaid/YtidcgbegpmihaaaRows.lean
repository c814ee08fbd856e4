/-
  No cell of these rows narrows 'for every input' (looked for: loops, veiled, ifaces, maps, wideKeys, modest, calm, conditions, laid).
  DERIVED. THE GIVEN ROWS OF THIS SEAT. 5 by the template 'for every input the law returns true; each argument reads behind the call as it read before'; 0 by the template 'total and deterministic' (their statements: YtidcgbegpmihaaaTotals.lean).
  GIVEN WITH THE SEED: the statements are not yours to turn. If you find one false, say at which input.
  Laid BY PROGRAM, IN A SANDBOX (cutbox-rows.mjs): the forced cells as the released guide's own fill.sh prints them over the translation 83c5579c58233991… (all of the seat's roots in one cut). By AI agents, Wed Nov 11 2026. No macro, syntax, notation, axiom, sorry.
-/
import Derived.Test.YtidcgbegpmihaaaChecked
import GoSem.Claim
import GoSem.ClaimJoined
import GoSem.ClaimMapViews
import Derived.JoinedTies
import Derived.KernelRfl
namespace Go.Proofs.Ytidcgbegpmihaaa
/- THE CELL 'sum', in the pinned program and in every row, IS THE sha256 OF THE DUMP (.gsa) THAT YtidcgbegpmihaaaProg.lean LOADS. Nothing in Lean hashes anything: it is a label: what it is worth is what the hold of that sum in a sandbox is worth. -/
noncomputable def Try.pinned : Pinned := { name := "ytidcgbegpmihaaa", sum := "83c5579c5823399124651de8bc6e2ddd85fd9537a4f062c42658f894d1e3f931", checked := Try.checked }
namespace Rows
def none {H : Type} : Left H := { results := [], args := [] }

/-- 'hectographlaw10.RingTells': WHATEVER THE INPUT: true; the input reads as it did. -/
def ringTellsSpec : ChangeSpec := { name := "ringTells", fn := fun _ => fun
  | [d1, d2, d3, d4, d5] => { results := [.lit (.bool true)], args := [d1, d2, d3, d4, d5] }
  | _ => none }
def ringTellsRow : OpenClaim := { program := "ytidcgbegpmihaaa", sum := "83c5579c5823399124651de8bc6e2ddd85fd9537a4f062c42658f894d1e3f931", func := "hectograph/hectographlaw10.RingTells", spec := "ringTells", apart := false }
def RingTellsSaid : Prop := ringTellsRow.holds Try.pinned (OpenSpec.ofChange ringTellsSpec)

/-- ITS FALSE NEIGHBOUR: 'it returns false'. Refute it at one input. -/
def ringTellsWrong : ChangeSpec := { name := "ringTells", fn := fun _ => fun
  | [d1, d2, d3, d4, d5] => { results := [.lit (.bool false)], args := [d1, d2, d3, d4, d5] }
  | _ => none }
def RingTellsWrongFalsely : Prop := ringTellsRow.holds Try.pinned (OpenSpec.ofChange ringTellsWrong)

/-- 'hectographlaw10.RingHolds': WHATEVER THE INPUT: true; the input reads as it did. -/
def ringHoldsSpec : ChangeSpec := { name := "ringHolds", fn := fun _ => fun
  | [d1, d2, d3, d4, d5] => { results := [.lit (.bool true)], args := [d1, d2, d3, d4, d5] }
  | _ => none }
def ringHoldsRow : OpenClaim := { program := "ytidcgbegpmihaaa", sum := "83c5579c5823399124651de8bc6e2ddd85fd9537a4f062c42658f894d1e3f931", func := "hectograph/hectographlaw10.RingHolds", spec := "ringHolds", apart := false }
def RingHoldsSaid : Prop := ringHoldsRow.holds Try.pinned (OpenSpec.ofChange ringHoldsSpec)

/-- ITS FALSE NEIGHBOUR: 'it returns false'. Refute it at one input. -/
def ringHoldsWrong : ChangeSpec := { name := "ringHolds", fn := fun _ => fun
  | [d1, d2, d3, d4, d5] => { results := [.lit (.bool false)], args := [d1, d2, d3, d4, d5] }
  | _ => none }
def RingHoldsWrongFalsely : Prop := ringHoldsRow.holds Try.pinned (OpenSpec.ofChange ringHoldsWrong)

/-- 'hectographlaw10.RingNums': WHATEVER THE INPUT: true; the input reads as it did. -/
def ringNumsSpec : ChangeSpec := { name := "ringNums", fn := fun _ => fun
  | [d1, d2, d3, d4] => { results := [.lit (.bool true)], args := [d1, d2, d3, d4] }
  | _ => none }
def ringNumsRow : OpenClaim := { program := "ytidcgbegpmihaaa", sum := "83c5579c5823399124651de8bc6e2ddd85fd9537a4f062c42658f894d1e3f931", func := "hectograph/hectographlaw10.RingNums", spec := "ringNums", apart := false }
def RingNumsSaid : Prop := ringNumsRow.holds Try.pinned (OpenSpec.ofChange ringNumsSpec)

/-- ITS FALSE NEIGHBOUR: 'it returns false'. Refute it at one input. -/
def ringNumsWrong : ChangeSpec := { name := "ringNums", fn := fun _ => fun
  | [d1, d2, d3, d4] => { results := [.lit (.bool false)], args := [d1, d2, d3, d4] }
  | _ => none }
def RingNumsWrongFalsely : Prop := ringNumsRow.holds Try.pinned (OpenSpec.ofChange ringNumsWrong)

/-- 'hectographlaw10.RingRows': WHATEVER THE INPUT: true; the input reads as it did. -/
def ringRowsSpec : ChangeSpec := { name := "ringRows", fn := fun _ => fun
  | [d1, d2, d3, d4, d5, d6, d7] => { results := [.lit (.bool true)], args := [d1, d2, d3, d4, d5, d6, d7] }
  | _ => none }
def ringRowsRow : OpenClaim := { program := "ytidcgbegpmihaaa", sum := "83c5579c5823399124651de8bc6e2ddd85fd9537a4f062c42658f894d1e3f931", func := "hectograph/hectographlaw10.RingRows", spec := "ringRows", apart := false }
def RingRowsSaid : Prop := ringRowsRow.holds Try.pinned (OpenSpec.ofChange ringRowsSpec)

/-- ITS FALSE NEIGHBOUR: 'it returns false'. Refute it at one input. -/
def ringRowsWrong : ChangeSpec := { name := "ringRows", fn := fun _ => fun
  | [d1, d2, d3, d4, d5, d6, d7] => { results := [.lit (.bool false)], args := [d1, d2, d3, d4, d5, d6, d7] }
  | _ => none }
def RingRowsWrongFalsely : Prop := ringRowsRow.holds Try.pinned (OpenSpec.ofChange ringRowsWrong)

/-- 'hectographlaw10.RingNeeds': WHATEVER THE INPUT: true; the input reads as it did. -/
def ringNeedsSpec : ChangeSpec := { name := "ringNeeds", fn := fun _ => fun
  | [d1, d2, d3, d4, d5, d6] => { results := [.lit (.bool true)], args := [d1, d2, d3, d4, d5, d6] }
  | _ => none }
def ringNeedsRow : OpenClaim := { program := "ytidcgbegpmihaaa", sum := "83c5579c5823399124651de8bc6e2ddd85fd9537a4f062c42658f894d1e3f931", func := "hectograph/hectographlaw10.RingNeeds", spec := "ringNeeds", apart := false }
def RingNeedsSaid : Prop := ringNeedsRow.holds Try.pinned (OpenSpec.ofChange ringNeedsSpec)

/-- ITS FALSE NEIGHBOUR: 'it returns false'. Refute it at one input. -/
def ringNeedsWrong : ChangeSpec := { name := "ringNeeds", fn := fun _ => fun
  | [d1, d2, d3, d4, d5, d6] => { results := [.lit (.bool false)], args := [d1, d2, d3, d4, d5, d6] }
  | _ => none }
def RingNeedsWrongFalsely : Prop := ringNeedsRow.holds Try.pinned (OpenSpec.ofChange ringNeedsWrong)

/- THE SECOND FORM. 'bulk': how many values and letters a reading holds, each counted each time it is reached (what is shared counts as often as it is met; a slice's spare places count too). A statement '..UptoSaid' is the law's where the arguments, and the package variables that the reading takes, are together of bulk at most 1048576: NARROWER than '..Said'. Prove '..Said' where nothing that the law and all that it calls make is longer than what came in: it says more and counts as full. Else prove '..UptoSaid'. A law counts once. -/
mutual
def uptoBulk {H : Type} : DataW H → Nat
  | .lit (.string bytes) => bytes.length + 1
  | .lit _ => 1
  | .nil => 1
  | .ptr d => uptoBulk d + 1
  | .slice elems spare => uptoBulkAll elems + uptoBulkAll spare + 1
  | .agg parts => uptoBulkAll parts + 1
  | .iface _ d => uptoBulk d + 1
  | .map entries => uptoBulkEntries entries + 1
  | .held _ => 1
def uptoBulkAll {H : Type} : List (DataW H) → Nat
  | [] => 0
  | d :: r => uptoBulk d + uptoBulkAll r
def uptoBulkEntries {H : Type} : List (Lit × DataW H) → Nat
  | [] => 0
  | x :: r => uptoBulkEntry x + uptoBulkEntries r
def uptoBulkEntry {H : Type} : Lit × DataW H → Nat
  | (.string bytes, d) => bytes.length + uptoBulk d + 1
  | (_, d) => uptoBulk d + 1
 end
def uptoSmall : (H : Type) → List (DataW H) → Bool := fun _ ds => decide (uptoBulkAll ds ≤ 1048576)
def OpenSpec.upto (s : _root_.Go.ChangeSpec) : _root_.Go.OpenSpec := { _root_.Go.OpenSpec.ofChange s with cond := some uptoSmall }

/-- 'hectographlaw10.RingTells', WHERE WHAT IT READS IS OF BULK AT MOST 1048576: true; the input reads as it did. -/
def ringTellsUptoRow : OpenClaim := { program := "ytidcgbegpmihaaa", sum := "83c5579c5823399124651de8bc6e2ddd85fd9537a4f062c42658f894d1e3f931", func := "hectograph/hectographlaw10.RingTells", spec := "ringTells", apart := false, narrowed := true }
def RingTellsUptoSaid : Prop := ringTellsUptoRow.holds Try.pinned (OpenSpec.upto ringTellsSpec)

/-- 'hectographlaw10.RingHolds', WHERE WHAT IT READS IS OF BULK AT MOST 1048576: true; the input reads as it did. -/
def ringHoldsUptoRow : OpenClaim := { program := "ytidcgbegpmihaaa", sum := "83c5579c5823399124651de8bc6e2ddd85fd9537a4f062c42658f894d1e3f931", func := "hectograph/hectographlaw10.RingHolds", spec := "ringHolds", apart := false, narrowed := true }
def RingHoldsUptoSaid : Prop := ringHoldsUptoRow.holds Try.pinned (OpenSpec.upto ringHoldsSpec)

/-- 'hectographlaw10.RingNums', WHERE WHAT IT READS IS OF BULK AT MOST 1048576: true; the input reads as it did. -/
def ringNumsUptoRow : OpenClaim := { program := "ytidcgbegpmihaaa", sum := "83c5579c5823399124651de8bc6e2ddd85fd9537a4f062c42658f894d1e3f931", func := "hectograph/hectographlaw10.RingNums", spec := "ringNums", apart := false, narrowed := true }
def RingNumsUptoSaid : Prop := ringNumsUptoRow.holds Try.pinned (OpenSpec.upto ringNumsSpec)

/-- 'hectographlaw10.RingRows', WHERE WHAT IT READS IS OF BULK AT MOST 1048576: true; the input reads as it did. -/
def ringRowsUptoRow : OpenClaim := { program := "ytidcgbegpmihaaa", sum := "83c5579c5823399124651de8bc6e2ddd85fd9537a4f062c42658f894d1e3f931", func := "hectograph/hectographlaw10.RingRows", spec := "ringRows", apart := false, narrowed := true }
def RingRowsUptoSaid : Prop := ringRowsUptoRow.holds Try.pinned (OpenSpec.upto ringRowsSpec)

/-- 'hectographlaw10.RingNeeds', WHERE WHAT IT READS IS OF BULK AT MOST 1048576: true; the input reads as it did. -/
def ringNeedsUptoRow : OpenClaim := { program := "ytidcgbegpmihaaa", sum := "83c5579c5823399124651de8bc6e2ddd85fd9537a4f062c42658f894d1e3f931", func := "hectograph/hectographlaw10.RingNeeds", spec := "ringNeeds", apart := false, narrowed := true }
def RingNeedsUptoSaid : Prop := ringNeedsUptoRow.holds Try.pinned (OpenSpec.upto ringNeedsSpec)

end Rows
end Go.Proofs.Ytidcgbegpmihaaa
