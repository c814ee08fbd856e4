/- The reference's number is the same. -/
import Derived.Test.YtidcgbegpmihaaaRingI
namespace Go.Proofs.Ytidcgbegpmihaaa
open Go.RowKit

set_option maxHeartbeats 1000000 in
theorem refnum_any (sp st sz ps po : Int) (w : World) : Calls Try.prog 11 #[.agg #[.int .i64 sp, .int .i64 st, .int .i64 sz], .agg #[.int .i64 ps, .int .i64 po]] w fun e w' => e = .returned (.int .i64 (numM sp st sz ps po)) ∧ Below w.heap.size w w' := by
  by_cases h : rightR sp st sz = true ∧ 0 ≤ ps ∧ ps ≤ 1073741824 ∧ 0 ≤ po ∧ po < sp
  · have HN := Lib.hid (numM_yes h)
    obtain ⟨hr, h1, h2, h3, h4⟩ := h
    obtain ⟨r1, r2, r3, r4, r5, r6⟩ := rightR_yes hr
    have m1 := Int.emod_nonneg ps (by omega : st ≠ 0)
    have m2 := Int.emod_lt_of_pos ps (by omega : 0 < st)
    have m3 := num_bd m1 (by omega) r1 r2 h3 h4 rfl
    have d1 : decide (ps < 0) = false := dec_no (by omega)
    have d2 : decide (1073741824 < ps) = false := dec_no (by omega)
    have d3 : decide (po < 0) = false := dec_no (by omega)
    have d4 : decide (sp ≤ po) = false := dec_no (by omega)
    have HR := Lib.hid hr
    clear hr
    go_enter Try.func11, Try.ntmps11
    go_wp2_with fail
    refine (refRight_any _ _ _ _).mono ?_
    rintro e w1 ⟨rfl, rfl⟩
    rw [HR.out]
    go_wp2_with fail
    go_quiet (fail)
    go_wp2_with fail
    go_ret
    refine ⟨ret_int ?_, ?_⟩
    · rw [HN.out]
    · repeat (first | with_reducible exact Below.refl _ _ | with_reducible refine below_drewN ?_ _ | with_reducible refine Below.alloc ?_ (by simp <;> omega) _)
  · have HN := Lib.hid (numM_no h)
    cases hr : rightR sp st sz
    · have HR := Lib.hid hr
      clear hr h
      go_enter Try.func11, Try.ntmps11
      go_wp2_with fail
      refine (refRight_any _ _ _ _).mono ?_
      rintro e w1 ⟨rfl, rfl⟩
      rw [HR.out]
      go_wp2_with fail
      go_ret
      exact ⟨ret_int HN.out.symm, by repeat (first | with_reducible exact Below.refl _ _ | with_reducible refine Below.alloc ?_ (by simp <;> omega) _)⟩
    · have HR := Lib.hid hr
      have h' : ¬ (0 ≤ ps ∧ ps ≤ 1073741824 ∧ 0 ≤ po ∧ po < sp) := fun e => h ⟨hr, e⟩
      have HO := Lib.hid h'
      clear hr h h'
      go_enter Try.func11, Try.ntmps11
      go_wp2_with fail
      refine (refRight_any _ _ _ _).mono ?_
      rintro e w1 ⟨rfl, rfl⟩
      rw [HR.out]
      go_wp2_with fail
      all_goals first
        | (go_ret; exact ⟨ret_int HN.out.symm, by repeat (first | with_reducible exact Below.refl _ _ | with_reducible refine Below.alloc ?_ (by simp <;> omega) _)⟩)
        | (exfalso; have := HO.out; omega)
end Go.Proofs.Ytidcgbegpmihaaa
