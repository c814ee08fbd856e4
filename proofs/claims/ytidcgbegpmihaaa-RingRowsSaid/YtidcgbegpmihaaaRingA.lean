/- Scratch. -/
import Derived.Test.YtidcgbegpmihaaaProg
import Derived.Test.YtidcgbegpmihaaaDraw
namespace Go.Proofs.Ytidcgbegpmihaaa
open Go.RowKit

theorem size_any (n : Int) (h0 : 1 ≤ n) (h9 : n ≤ 90) (w : World) : Calls Try.prog 23 #[.int .i64 n] w fun e w' => e = .returned (.int .i64 (22 + n)) ∧ w = w' := by
  have h1 : ¬ 90 < n := by omega
  have h2 : 0 < n := by omega
  go_enter Try.func23, Try.ntmps23
  go_wp2_with fail
  go_ret
  exact ⟨rfl, rfl⟩

def rightR (sp st sz : Int) : Bool := decide (1 ≤ sp) && decide (sp ≤ 4) && decide (4 ≤ st) && decide (st ≤ 8) && decide (512 ≤ sz) && decide (sz ≤ 4096)
theorem rightR_yes {sp st sz : Int} (h : rightR sp st sz = true) : 1 ≤ sp ∧ sp ≤ 4 ∧ 4 ≤ st ∧ st ≤ 8 ∧ 512 ≤ sz ∧ sz ≤ 4096 := by
  simp [rightR] at h; omega
theorem rightR_mk {sp st sz : Int} (h : 1 ≤ sp ∧ sp ≤ 4 ∧ 4 ≤ st ∧ st ≤ 8 ∧ 512 ≤ sz ∧ sz ≤ 4096) : rightR sp st sz = true := by
  simp [rightR]; omega
theorem bool_of {p q : Bool} (h : p = true ↔ q = true) : p = q := by rw [Bool.eq_iff_iff]; exact h

theorem right_any (sp st sz : Int) (w : World) : Calls Try.prog 12 #[.agg #[.int .i64 sp, .int .i64 st, .int .i64 sz]] w fun e w' => e = .returned (.bool (rightR sp st sz)) ∧ (w.alloc (.cells #[.int .i64 sp, .int .i64 st, .int .i64 sz] 23)) = w' := by
  go_enter Try.func12, Try.ntmps12
  go_wp2_with fail
  all_goals
    go_ret
    exact ⟨ret_bool (bool_of (by simp [rightR]; omega)), rfl⟩
theorem refRight_any (sp st sz : Int) (w : World) : Calls Try.prog 13 #[.agg #[.int .i64 sp, .int .i64 st, .int .i64 sz]] w fun e w' => e = .returned (.bool (rightR sp st sz)) ∧ (w.alloc (.cells #[.int .i64 sp, .int .i64 st, .int .i64 sz] 23)) = w' := by
  go_enter Try.func13, Try.ntmps13
  go_wp2_with fail
  all_goals
    go_ret
    exact ⟨ret_bool (bool_of (by simp [rightR]; omega)), rfl⟩

def okU (sz u : Int) : Bool := decide (0 ≤ u) && decide (u ≤ sz)
def okF (sz s u0 u1 u2 u3 : Int) : Bool := okU sz u0 && okU sz u1 && okU sz u2 && okU sz u3 && decide (0 ≤ s) && decide (s < 1073741824)
theorem ix0 (a b c d : Value) : ∀ w, (Instr.index 24 (.agg #[a, b, c, d]) (.int .i64 0)).run Try.prog w = .ok a w := fun _ => by kernel_rfl
theorem ix1 (a b c d : Value) : ∀ w, (Instr.index 24 (.agg #[a, b, c, d]) (.int .i64 1)).run Try.prog w = .ok b w := fun _ => by kernel_rfl
theorem ix2 (a b c d : Value) : ∀ w, (Instr.index 24 (.agg #[a, b, c, d]) (.int .i64 2)).run Try.prog w = .ok c w := fun _ => by kernel_rfl
theorem ix3 (a b c d : Value) : ∀ w, (Instr.index 24 (.agg #[a, b, c, d]) (.int .i64 3)).run Try.prog w = .ok d w := fun _ => by kernel_rfl

theorem okU_cases (sz u : Int) : (okU sz u = true ∧ 0 ≤ u ∧ u ≤ sz) ∨ (okU sz u = false ∧ u < 0) ∨ (okU sz u = false ∧ 0 ≤ u ∧ sz < u) := by
  unfold okU
  by_cases h : 0 ≤ u <;> by_cases h' : u ≤ sz <;> simp [h, h'] <;> omega
theorem okF_no0 {sz s u0 u1 u2 u3 : Int} (h : okU sz u0 = false) : okF sz s u0 u1 u2 u3 = false := by simp [okF, h]
theorem okF_no1 {sz s u0 u1 u2 u3 : Int} (h : okU sz u1 = false) : okF sz s u0 u1 u2 u3 = false := by simp [okF, h]
theorem okF_no2 {sz s u0 u1 u2 u3 : Int} (h : okU sz u2 = false) : okF sz s u0 u1 u2 u3 = false := by simp [okF, h]
theorem okF_no3 {sz s u0 u1 u2 u3 : Int} (h : okU sz u3 = false) : okF sz s u0 u1 u2 u3 = false := by simp [okF, h]

theorem fill_any (sp st sz s u0 u1 u2 u3 : Int) (w : World) : Calls Try.prog 22 #[.agg #[.int .i64 sp, .int .i64 st, .int .i64 sz], .agg #[.int .i64 s, .int .i64 u0, .int .i64 u1, .int .i64 u2, .int .i64 u3]] w fun e w' => e = .returned (.bool (okF sz s u0 u1 u2 u3)) ∧ ((w.alloc (.cells #[.int .i64 sp, .int .i64 st, .int .i64 sz] 23)).alloc (.cells #[.int .i64 s, .int .i64 u0, .int .i64 u1, .int .i64 u2, .int .i64 u3] 26)) = w' := by
  go_enter Try.func22, Try.ntmps22
  go_wp2_with fail
  go_loop [6, 9] (fun _ i => ∃ k : Nat, k ≤ 4 ∧ i = .int .i64 k ∧ (0 < k → okU sz u0 = true) ∧ (1 < k → okU sz u1 = true) ∧ (2 < k → okU sz u2 = true) ∧ (3 < k → okU sz u3 = true)) (fun _ i => 4 - (intOf i).toNat)
  case atStart => exact ⟨0, by omega, rfl, fun h => absurd h (by decide), fun h => absurd h (by decide), fun h => absurd h (by decide), fun h => absurd h (by decide)⟩
  case round =>
    obtain ⟨k, hk, rfl, g0, g1, g2, g3⟩ := hrel
    have G0 := Lib.hid g0
    have G1 := Lib.hid g1
    have G2 := Lib.hid g2
    have G3 := Lib.hid g3
    clear g0 g1 g2 g3
    rcases (by omega : k = 0 ∨ k = 1 ∨ k = 2 ∨ k = 3 ∨ k = 4) with rfl | rfl | rfl | rfl | rfl
    · have hix := ix0 (.int .i64 u0) (.int .i64 u1) (.int .i64 u2) (.int .i64 u3)
      rcases okU_cases sz u0 with ⟨hu, h1, h2⟩ | ⟨hu, h1⟩ | ⟨hu, h1, h2⟩
      · have HU := Lib.hid hu
        clear hu
        go_wp2_with fail
        go_round
        case rel => exact ⟨1, by omega, by go_num, fun _ => HU.out, fun h => absurd h (by decide), fun h => absurd h (by decide), fun h => absurd h (by decide)⟩
        case measure => simp [intOf]
      · have HU := Lib.hid hu
        clear hu
        go_wp2_with fail
        go_ret
        exact ⟨ret_bool (okF_no0 HU.out).symm, rfl⟩
      · have HU := Lib.hid hu
        clear hu
        go_wp2_with fail
        go_ret
        exact ⟨ret_bool (okF_no0 HU.out).symm, rfl⟩
    · have hix := ix1 (.int .i64 u0) (.int .i64 u1) (.int .i64 u2) (.int .i64 u3)
      rcases okU_cases sz u1 with ⟨hu, h1, h2⟩ | ⟨hu, h1⟩ | ⟨hu, h1, h2⟩
      · have HU := Lib.hid hu
        clear hu
        go_wp2_with fail
        go_round
        case rel => exact ⟨2, by omega, by go_num, fun _ => G0.out (by decide), fun _ => HU.out, fun h => absurd h (by decide), fun h => absurd h (by decide)⟩
        case measure => simp [intOf]
      · have HU := Lib.hid hu
        clear hu
        go_wp2_with fail
        go_ret
        exact ⟨ret_bool (okF_no1 HU.out).symm, rfl⟩
      · have HU := Lib.hid hu
        clear hu
        go_wp2_with fail
        go_ret
        exact ⟨ret_bool (okF_no1 HU.out).symm, rfl⟩
    · have hix := ix2 (.int .i64 u0) (.int .i64 u1) (.int .i64 u2) (.int .i64 u3)
      rcases okU_cases sz u2 with ⟨hu, h1, h2⟩ | ⟨hu, h1⟩ | ⟨hu, h1, h2⟩
      · have HU := Lib.hid hu
        clear hu
        go_wp2_with fail
        go_round
        case rel => exact ⟨3, by omega, by go_num, fun _ => G0.out (by decide), fun _ => G1.out (by decide), fun _ => HU.out, fun h => absurd h (by decide)⟩
        case measure => simp [intOf]
      · have HU := Lib.hid hu
        clear hu
        go_wp2_with fail
        go_ret
        exact ⟨ret_bool (okF_no2 HU.out).symm, rfl⟩
      · have HU := Lib.hid hu
        clear hu
        go_wp2_with fail
        go_ret
        exact ⟨ret_bool (okF_no2 HU.out).symm, rfl⟩
    · have hix := ix3 (.int .i64 u0) (.int .i64 u1) (.int .i64 u2) (.int .i64 u3)
      rcases okU_cases sz u3 with ⟨hu, h1, h2⟩ | ⟨hu, h1⟩ | ⟨hu, h1, h2⟩
      · have HU := Lib.hid hu
        clear hu
        go_wp2_with fail
        go_round
        case rel => exact ⟨4, by omega, by go_num, fun _ => G0.out (by decide), fun _ => G1.out (by decide), fun _ => G2.out (by decide), fun _ => HU.out⟩
        case measure => simp [intOf]
      · have HU := Lib.hid hu
        clear hu
        go_wp2_with fail
        go_ret
        exact ⟨ret_bool (okF_no3 HU.out).symm, rfl⟩
      · have HU := Lib.hid hu
        clear hu
        go_wp2_with fail
        go_ret
        exact ⟨ret_bool (okF_no3 HU.out).symm, rfl⟩
    · go_wp2_with fail
      all_goals
        go_ret
        exact ⟨ret_bool (bool_of (by simp [okF, G0.out, G1.out, G2.out, G3.out]; omega)), rfl⟩
end Go.Proofs.Ytidcgbegpmihaaa
