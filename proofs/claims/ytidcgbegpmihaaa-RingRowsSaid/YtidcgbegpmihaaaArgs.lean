/- What a struct argument of the laws holds: its integers. -/
import Derived.Test.YtidcgbegpmihaaaRows
import Derived.WalkKit
import Derived.ProofKit
import Derived.OpenShut
import Derived.ShutString
import Derived.Lib.SmallJoins
import Derived.Laws.IdiomArrays
namespace Go.Proofs.Ytidcgbegpmihaaa
open Go.ChangeShapes Go.WideShapes Go.ChangeAt Go.RowKit Go.Joins Go.Deep
section
variable {H : Type} {enc : TypeId × Value → H} {w : World} {base b0 : Nat} {spare : Nat → Bool} {held : Bool} {r : Reach} {v : Value} {d : DataW H} {p : List MemPlace}
theorem open_ring (hv : Value.okWide Try.prog w r b0 23 v) (h : DataW.Trod enc Try.prog w base spare held 23 v d p) : ∃ a b c : Int, v = .agg #[.int .i64 a, .int .i64 b, .int .i64 c] := by
  obtain ⟨c0, c1, c2, y0, y1, y2, m, rfl, _, _, hy0, hy1, hy2⟩ := open_agg3 Try.underlying23 (by kernel_rfl) (by kernel_rfl) hv h
  obtain ⟨x, e0, _, _⟩ := DataW.trod_int Try.underlying3 hy0
  obtain ⟨y, e1, _, _⟩ := DataW.trod_int Try.underlying3 hy1
  obtain ⟨f, e2, _, _⟩ := DataW.trod_int Try.underlying3 hy2
  simp at e0 e1 e2
  subst e0 e1 e2
  exact ⟨_, _, _, rfl⟩
theorem open_place (hv : Value.okWide Try.prog w r b0 28 v) (h : DataW.Trod enc Try.prog w base spare held 28 v d p) : ∃ a b : Int, v = .agg #[.int .i64 a, .int .i64 b] := by
  obtain ⟨c0, c1, y0, y1, m, rfl, _, _, hy0, hy1⟩ := open_agg2 Try.underlying28 (by kernel_rfl) (by kernel_rfl) hv h
  obtain ⟨x, e0, _, _⟩ := DataW.trod_int Try.underlying3 hy0
  obtain ⟨y, e1, _, _⟩ := DataW.trod_int Try.underlying3 hy1
  simp at e0 e1
  subst e0 e1
  exact ⟨_, _, rfl⟩
theorem cells3 : Try.prog.cellsOf 3 = 1 := by kernel_rfl
theorem cells24 : Try.prog.cellsOf 24 = 4 := by kernel_rfl
theorem cells26 : Try.prog.cellsOf 26 = 5 := by kernel_rfl
theorem open_fill (hv : Value.okWide Try.prog w r b0 26 v) (h : DataW.Trod enc Try.prog w base spare held 26 v d p) : ∃ a b0 b1 b2 b3 : Int, v = .agg #[.int .i64 a, .int .i64 b0, .int .i64 b1, .int .i64 b2, .int .i64 b3] := by
  obtain ⟨cs, rfl, hsz⟩ := okWide_struct Try.underlying26 hv
  obtain ⟨l⟩ := cs
  match l, hsz.trans cells26 with
  | [c0, c1, c2, c3, c4], _ =>
    obtain ⟨fuel, hf⟩ := h
    obtain ⟨y0, y1, n, _, _, h0, h1⟩ := trod_struct2 Try.underlying26 hf
    simp [Value.cells, cells3, cells24] at h0 h1
    obtain ⟨x, e0, _, _⟩ := DataW.trod_int Try.underlying3 h0
    obtain ⟨z0, z1, z2, z3, n', _, k0, k1, k2, k3⟩ := trod_array4 Try.underlying24 cells3 h1
    obtain ⟨x0, q0, _, _⟩ := DataW.trod_int Try.underlying3 k0
    obtain ⟨x1, q1, _, _⟩ := DataW.trod_int Try.underlying3 k1
    obtain ⟨x2, q2, _, _⟩ := DataW.trod_int Try.underlying3 k2
    obtain ⟨x3, q3, _, _⟩ := DataW.trod_int Try.underlying3 k3
    simp at e0 q0 q1 q2 q3
    subst e0 q0 q1 q2 q3
    exact ⟨_, _, _, _, _, rfl⟩
end
end Go.Proofs.Ytidcgbegpmihaaa
