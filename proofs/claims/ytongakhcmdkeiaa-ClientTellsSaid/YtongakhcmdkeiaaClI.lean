/- The closed examples; the law ClientFull: the walks. Conditions: those that each theorem states. -/
import Derived.Test.YtongakhcmdkeiaaClH
namespace Go.Proofs.Ytongakhcmdkeiaa
open Go.RowKit

theorem own_cl {w : World} {B n c : Nat} {A : Option Addr} {L : List Cl} (h : w.ownsRow B 42 3 (.slice A n c) n (clc L)) : L.length = n := by have := own_len h; rw [clc_length] at this; omega

set_option maxHeartbeats 1000000 in
theorem known_any (w : World) : Calls Try.prog 8 #[] w fun e w' => e = .returned (.bool true) ∧ Below w.heap.size w w' := by
  go_enter Try.func8, Try.ntmps8
  go_wp2_with fail
  refine (add_any none 0 0 [] 2 5 w (Reads.nil_ _ _ _)).mono ?_
  rintro e w1 ⟨A1, n1, c1, rfl, hown, hb1⟩
  have e1 : addM [] 2 5 = ([(2, 5, false)], 0) := by decide
  rw [e1] at hown ⊢
  have hn := own_cl hown
  simp only [List.length_cons, List.length_nil, Nat.zero_add] at hn
  subst hn
  obtain ⟨g, rfl, -, hgl, x0, -⟩ := own_at hown (j := 0) (u := .int .i64 2) rfl
  obtain ⟨g', hg, -, -, x1, -⟩ := own_at hown (j := 1) (u := .int .i64 5) rfl
  cases hg
  obtain ⟨g', hg, -, -, x2, -⟩ := own_at hown (j := 2) (u := .bool false) rfl
  cases hg
  have rl : ClAt w1 (some ⟨g, 0, none⟩) 1 c1 [(2, 5, false)] := Reads.of_own hown
  clear e1 hown
  go_wp2_with fail
  refine (slow_any _ _ _ _ _ rl).mono ?_
  rintro e w2 ⟨rfl, hb2⟩
  have e2 : slowM [(2, 5, false)] = (5, true) := by decide
  rw [e2]
  go_wp2_with fail
  refine (slow_any none 0 0 [] _ (Reads.nil_ _ _ _)).mono ?_
  rintro e w3 ⟨rfl, hb3⟩
  have e3 : slowM [] = (0, false) := by decide
  rw [e3]
  go_wp2_with fail
  refine (drop_any none 0 0 [] 1 _ (Reads.nil_ _ _ _)).mono ?_
  rintro e w4 ⟨A4, n4, c4, rfl, hown4, hb4⟩
  have e4 : dropM [] 1 = ([], 4) := by decide
  rw [e4]
  have hb14 : Below w1.heap.size w1 w4 := below_next (below_next hb2 hb3) hb4
  have y0 := (hb14.cell (p := ⟨g, 0, none⟩) hgl).trans x0
  have y1 := (hb14.cell (p := ⟨g, 1, none⟩) hgl).trans x1
  have y2 := (hb14.cell (p := ⟨g, 2, none⟩) hgl).trans x2
  clear e2 e3 e4 hown4 x0 x1 x2
  go_wp2_with fail
  go_ret
  exact ⟨rfl, hb1.trans (hb14.mono hb1.size)⟩
end Go.Proofs.Ytongakhcmdkeiaa
