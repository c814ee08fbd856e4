/- hectographref10.Put, one theorem a way: what it answers; nothing that was there is written. Conditions: those that each theorem states. -/
import Derived.Test.YtidcgbegpmihaaaRingB
import Derived.LoopN
namespace Go.Proofs.Ytidcgbegpmihaaa
open Go.RowKit

set_option maxHeartbeats 1000000 in
theorem rp_no1 (sp st sz s u0 u1 u2 u3 q n : Int) (w : World) (HR : Hid (rightR sp st sz = false)) :
    Calls Try.prog 9 #[.agg #[.int .i64 sp, .int .i64 st, .int .i64 sz], .agg #[.int .i64 s, .int .i64 u0, .int .i64 u1, .int .i64 u2, .int .i64 u3], .int .i64 q, .int .i64 n] w fun e w' =>
      e = .returned (.tuple #[.agg #[.int .i64 0, .int .i64 0, .int .i64 0, .int .i64 0, .int .i64 0], .agg #[.int .i64 0, .int .i64 0], .bool false, .bool false]) ∧ Below w.heap.size w w' := by
  go_enter Try.func9, Try.ntmps9
  go_wp2_with fail
  refine (refRight_any _ _ _ _).mono ?_
  rintro e w1 ⟨rfl, rfl⟩
  rw [HR.out]
  go_wp2_with fail
  exact bodyPost_ret (v := .tuple #[.agg #[.int .i64 0, .int .i64 0, .int .i64 0, .int .i64 0, .int .i64 0], .agg #[.int .i64 0, .int .i64 0], .bool false, .bool false]) (by simp [results, Try.results9, go_sem]) rfl ⟨rfl, by repeat (first | with_reducible exact Below.refl _ _ | with_reducible refine Below.drew ?_ | with_reducible refine below_drewN ?_ _ | with_reducible refine Below.setCell ?_ (by simp <;> omega) _ | with_reducible refine Below.alloc ?_ (by simp <;> omega) _)⟩
set_option maxHeartbeats 1000000 in
theorem rp_no2 (sp st sz s u0 u1 u2 u3 q n : Int) (w : World) (HR : Hid (rightR sp st sz = true)) (g0 : decide (s < 0) = true) :
    Calls Try.prog 9 #[.agg #[.int .i64 sp, .int .i64 st, .int .i64 sz], .agg #[.int .i64 s, .int .i64 u0, .int .i64 u1, .int .i64 u2, .int .i64 u3], .int .i64 q, .int .i64 n] w fun e w' =>
      e = .returned (.tuple #[.agg #[.int .i64 0, .int .i64 0, .int .i64 0, .int .i64 0, .int .i64 0], .agg #[.int .i64 0, .int .i64 0], .bool false, .bool false]) ∧ Below w.heap.size w w' := by
  go_enter Try.func9, Try.ntmps9
  go_wp2_with fail
  refine (refRight_any _ _ _ _).mono ?_
  rintro e w1 ⟨rfl, rfl⟩
  rw [HR.out]
  go_wp2_with fail
  exact bodyPost_ret (v := .tuple #[.agg #[.int .i64 0, .int .i64 0, .int .i64 0, .int .i64 0, .int .i64 0], .agg #[.int .i64 0, .int .i64 0], .bool false, .bool false]) (by simp [results, Try.results9, go_sem]) rfl ⟨rfl, by repeat (first | with_reducible exact Below.refl _ _ | with_reducible refine Below.drew ?_ | with_reducible refine below_drewN ?_ _ | with_reducible refine Below.setCell ?_ (by simp <;> omega) _ | with_reducible refine Below.alloc ?_ (by simp <;> omega) _)⟩
set_option maxHeartbeats 1000000 in
theorem rp_no3 (sp st sz s u0 u1 u2 u3 q n : Int) (w : World) (HR : Hid (rightR sp st sz = true)) (g0 : decide (s < 0) = false) (g1 : decide (1073741824 ≤ s) = true) :
    Calls Try.prog 9 #[.agg #[.int .i64 sp, .int .i64 st, .int .i64 sz], .agg #[.int .i64 s, .int .i64 u0, .int .i64 u1, .int .i64 u2, .int .i64 u3], .int .i64 q, .int .i64 n] w fun e w' =>
      e = .returned (.tuple #[.agg #[.int .i64 0, .int .i64 0, .int .i64 0, .int .i64 0, .int .i64 0], .agg #[.int .i64 0, .int .i64 0], .bool false, .bool false]) ∧ Below w.heap.size w w' := by
  go_enter Try.func9, Try.ntmps9
  go_wp2_with fail
  refine (refRight_any _ _ _ _).mono ?_
  rintro e w1 ⟨rfl, rfl⟩
  rw [HR.out]
  go_wp2_with fail
  exact bodyPost_ret (v := .tuple #[.agg #[.int .i64 0, .int .i64 0, .int .i64 0, .int .i64 0, .int .i64 0], .agg #[.int .i64 0, .int .i64 0], .bool false, .bool false]) (by simp [results, Try.results9, go_sem]) rfl ⟨rfl, by repeat (first | with_reducible exact Below.refl _ _ | with_reducible refine Below.drew ?_ | with_reducible refine below_drewN ?_ _ | with_reducible refine Below.setCell ?_ (by simp <;> omega) _ | with_reducible refine Below.alloc ?_ (by simp <;> omega) _)⟩
set_option maxHeartbeats 1000000 in
theorem rp_no4 (sp st sz s u0 u1 u2 u3 q n : Int) (w : World) (HR : Hid (rightR sp st sz = true)) (g0 : decide (s < 0) = false) (g1 : decide (1073741824 ≤ s) = false) (g2 : decide (q < 1) = true) :
    Calls Try.prog 9 #[.agg #[.int .i64 sp, .int .i64 st, .int .i64 sz], .agg #[.int .i64 s, .int .i64 u0, .int .i64 u1, .int .i64 u2, .int .i64 u3], .int .i64 q, .int .i64 n] w fun e w' =>
      e = .returned (.tuple #[.agg #[.int .i64 0, .int .i64 0, .int .i64 0, .int .i64 0, .int .i64 0], .agg #[.int .i64 0, .int .i64 0], .bool false, .bool false]) ∧ Below w.heap.size w w' := by
  go_enter Try.func9, Try.ntmps9
  go_wp2_with fail
  refine (refRight_any _ _ _ _).mono ?_
  rintro e w1 ⟨rfl, rfl⟩
  rw [HR.out]
  go_wp2_with fail
  exact bodyPost_ret (v := .tuple #[.agg #[.int .i64 0, .int .i64 0, .int .i64 0, .int .i64 0, .int .i64 0], .agg #[.int .i64 0, .int .i64 0], .bool false, .bool false]) (by simp [results, Try.results9, go_sem]) rfl ⟨rfl, by repeat (first | with_reducible exact Below.refl _ _ | with_reducible refine Below.drew ?_ | with_reducible refine below_drewN ?_ _ | with_reducible refine Below.setCell ?_ (by simp <;> omega) _ | with_reducible refine Below.alloc ?_ (by simp <;> omega) _)⟩
set_option maxHeartbeats 1000000 in
theorem rp_no5 (sp st sz s u0 u1 u2 u3 q n : Int) (w : World) (HR : Hid (rightR sp st sz = true)) (g0 : decide (s < 0) = false) (g1 : decide (1073741824 ≤ s) = false) (g2 : decide (q < 1) = false) (g3 : decide (1099511627776 < q) = true) :
    Calls Try.prog 9 #[.agg #[.int .i64 sp, .int .i64 st, .int .i64 sz], .agg #[.int .i64 s, .int .i64 u0, .int .i64 u1, .int .i64 u2, .int .i64 u3], .int .i64 q, .int .i64 n] w fun e w' =>
      e = .returned (.tuple #[.agg #[.int .i64 0, .int .i64 0, .int .i64 0, .int .i64 0, .int .i64 0], .agg #[.int .i64 0, .int .i64 0], .bool false, .bool false]) ∧ Below w.heap.size w w' := by
  go_enter Try.func9, Try.ntmps9
  go_wp2_with fail
  refine (refRight_any _ _ _ _).mono ?_
  rintro e w1 ⟨rfl, rfl⟩
  rw [HR.out]
  go_wp2_with fail
  exact bodyPost_ret (v := .tuple #[.agg #[.int .i64 0, .int .i64 0, .int .i64 0, .int .i64 0, .int .i64 0], .agg #[.int .i64 0, .int .i64 0], .bool false, .bool false]) (by simp [results, Try.results9, go_sem]) rfl ⟨rfl, by repeat (first | with_reducible exact Below.refl _ _ | with_reducible refine Below.drew ?_ | with_reducible refine below_drewN ?_ _ | with_reducible refine Below.setCell ?_ (by simp <;> omega) _ | with_reducible refine Below.alloc ?_ (by simp <;> omega) _)⟩
set_option maxHeartbeats 1000000 in
theorem rp_no6 (sp st sz s u0 u1 u2 u3 q n : Int) (w : World) (HR : Hid (rightR sp st sz = true)) (g0 : decide (s < 0) = false) (g1 : decide (1073741824 ≤ s) = false) (g2 : decide (q < 1) = false) (g3 : decide (1099511627776 < q) = false) (g4 : decide (n < 1) = true) :
    Calls Try.prog 9 #[.agg #[.int .i64 sp, .int .i64 st, .int .i64 sz], .agg #[.int .i64 s, .int .i64 u0, .int .i64 u1, .int .i64 u2, .int .i64 u3], .int .i64 q, .int .i64 n] w fun e w' =>
      e = .returned (.tuple #[.agg #[.int .i64 0, .int .i64 0, .int .i64 0, .int .i64 0, .int .i64 0], .agg #[.int .i64 0, .int .i64 0], .bool false, .bool false]) ∧ Below w.heap.size w w' := by
  go_enter Try.func9, Try.ntmps9
  go_wp2_with fail
  refine (refRight_any _ _ _ _).mono ?_
  rintro e w1 ⟨rfl, rfl⟩
  rw [HR.out]
  go_wp2_with fail
  exact bodyPost_ret (v := .tuple #[.agg #[.int .i64 0, .int .i64 0, .int .i64 0, .int .i64 0, .int .i64 0], .agg #[.int .i64 0, .int .i64 0], .bool false, .bool false]) (by simp [results, Try.results9, go_sem]) rfl ⟨rfl, by repeat (first | with_reducible exact Below.refl _ _ | with_reducible refine Below.drew ?_ | with_reducible refine below_drewN ?_ _ | with_reducible refine Below.setCell ?_ (by simp <;> omega) _ | with_reducible refine Below.alloc ?_ (by simp <;> omega) _)⟩
set_option maxHeartbeats 1000000 in
theorem rp_no7 (sp st sz s u0 u1 u2 u3 q n : Int) (w : World) (HR : Hid (rightR sp st sz = true)) (g0 : decide (s < 0) = false) (g1 : decide (1073741824 ≤ s) = false) (g2 : decide (q < 1) = false) (g3 : decide (1099511627776 < q) = false) (g4 : decide (n < 1) = false) (g5 : decide (90 < n) = true) :
    Calls Try.prog 9 #[.agg #[.int .i64 sp, .int .i64 st, .int .i64 sz], .agg #[.int .i64 s, .int .i64 u0, .int .i64 u1, .int .i64 u2, .int .i64 u3], .int .i64 q, .int .i64 n] w fun e w' =>
      e = .returned (.tuple #[.agg #[.int .i64 0, .int .i64 0, .int .i64 0, .int .i64 0, .int .i64 0], .agg #[.int .i64 0, .int .i64 0], .bool false, .bool false]) ∧ Below w.heap.size w w' := by
  go_enter Try.func9, Try.ntmps9
  go_wp2_with fail
  refine (refRight_any _ _ _ _).mono ?_
  rintro e w1 ⟨rfl, rfl⟩
  rw [HR.out]
  go_wp2_with fail
  exact bodyPost_ret (v := .tuple #[.agg #[.int .i64 0, .int .i64 0, .int .i64 0, .int .i64 0, .int .i64 0], .agg #[.int .i64 0, .int .i64 0], .bool false, .bool false]) (by simp [results, Try.results9, go_sem]) rfl ⟨rfl, by repeat (first | with_reducible exact Below.refl _ _ | with_reducible refine Below.drew ?_ | with_reducible refine below_drewN ?_ _ | with_reducible refine Below.setCell ?_ (by simp <;> omega) _ | with_reducible refine Below.alloc ?_ (by simp <;> omega) _)⟩
set_option maxHeartbeats 1000000 in
theorem rp_bad00 (sp st sz s u0 u1 u2 u3 q n : Int) (w : World) (HR : Hid (rightR sp st sz = true)) (g0 : decide (s < 0) = false) (g1 : decide (1073741824 ≤ s) = false) (g2 : decide (q < 1) = false) (g3 : decide (1099511627776 < q) = false) (g4 : decide (n < 1) = false) (g5 : decide (90 < n) = false) (e0 : decide (u0 < 0) = true) :
    Calls Try.prog 9 #[.agg #[.int .i64 sp, .int .i64 st, .int .i64 sz], .agg #[.int .i64 s, .int .i64 u0, .int .i64 u1, .int .i64 u2, .int .i64 u3], .int .i64 q, .int .i64 n] w fun e w' =>
      e = .returned (.tuple #[.agg #[.int .i64 0, .int .i64 0, .int .i64 0, .int .i64 0, .int .i64 0], .agg #[.int .i64 0, .int .i64 0], .bool false, .bool false]) ∧ Below w.heap.size w w' := by
  go_enter Try.func9, Try.ntmps9
  go_wp2_with fail
  refine (refRight_any _ _ _ _).mono ?_
  rintro e w1 ⟨rfl, rfl⟩
  rw [HR.out]
  go_wp2_with fail
  refine wp_loop_rounds 5 ?_
  rw [rounds_succ]
  go_wp2_with fail
  go_quiet (fail)
  go_wp2_with fail
  exact bodyPost_ret (v := .tuple #[.agg #[.int .i64 0, .int .i64 0, .int .i64 0, .int .i64 0, .int .i64 0], .agg #[.int .i64 0, .int .i64 0], .bool false, .bool false]) (by simp [results, Try.results9, go_sem]) rfl ⟨rfl, by repeat (first | with_reducible exact Below.refl _ _ | with_reducible refine Below.drew ?_ | with_reducible refine below_drewN ?_ _ | with_reducible refine Below.setCell ?_ (by simp <;> omega) _ | with_reducible refine Below.alloc ?_ (by simp <;> omega) _)⟩
set_option maxHeartbeats 1000000 in
theorem rp_bad01 (sp st sz s u0 u1 u2 u3 q n : Int) (w : World) (HR : Hid (rightR sp st sz = true)) (g0 : decide (s < 0) = false) (g1 : decide (1073741824 ≤ s) = false) (g2 : decide (q < 1) = false) (g3 : decide (1099511627776 < q) = false) (g4 : decide (n < 1) = false) (g5 : decide (90 < n) = false) (e0 : decide (u0 < 0) = false) (f0 : decide (sz < u0) = true) :
    Calls Try.prog 9 #[.agg #[.int .i64 sp, .int .i64 st, .int .i64 sz], .agg #[.int .i64 s, .int .i64 u0, .int .i64 u1, .int .i64 u2, .int .i64 u3], .int .i64 q, .int .i64 n] w fun e w' =>
      e = .returned (.tuple #[.agg #[.int .i64 0, .int .i64 0, .int .i64 0, .int .i64 0, .int .i64 0], .agg #[.int .i64 0, .int .i64 0], .bool false, .bool false]) ∧ Below w.heap.size w w' := by
  go_enter Try.func9, Try.ntmps9
  go_wp2_with fail
  refine (refRight_any _ _ _ _).mono ?_
  rintro e w1 ⟨rfl, rfl⟩
  rw [HR.out]
  go_wp2_with fail
  refine wp_loop_rounds 5 ?_
  rw [rounds_succ]
  go_wp2_with fail
  go_quiet (fail)
  go_wp2_with fail
  exact bodyPost_ret (v := .tuple #[.agg #[.int .i64 0, .int .i64 0, .int .i64 0, .int .i64 0, .int .i64 0], .agg #[.int .i64 0, .int .i64 0], .bool false, .bool false]) (by simp [results, Try.results9, go_sem]) rfl ⟨rfl, by repeat (first | with_reducible exact Below.refl _ _ | with_reducible refine Below.drew ?_ | with_reducible refine below_drewN ?_ _ | with_reducible refine Below.setCell ?_ (by simp <;> omega) _ | with_reducible refine Below.alloc ?_ (by simp <;> omega) _)⟩
set_option maxHeartbeats 1000000 in
theorem rp_bad10 (sp st sz s u0 u1 u2 u3 q n : Int) (w : World) (HR : Hid (rightR sp st sz = true)) (g0 : decide (s < 0) = false) (g1 : decide (1073741824 ≤ s) = false) (g2 : decide (q < 1) = false) (g3 : decide (1099511627776 < q) = false) (g4 : decide (n < 1) = false) (g5 : decide (90 < n) = false) (e0 : decide (u0 < 0) = false) (f0 : decide (sz < u0) = false) (e1 : decide (u1 < 0) = true) :
    Calls Try.prog 9 #[.agg #[.int .i64 sp, .int .i64 st, .int .i64 sz], .agg #[.int .i64 s, .int .i64 u0, .int .i64 u1, .int .i64 u2, .int .i64 u3], .int .i64 q, .int .i64 n] w fun e w' =>
      e = .returned (.tuple #[.agg #[.int .i64 0, .int .i64 0, .int .i64 0, .int .i64 0, .int .i64 0], .agg #[.int .i64 0, .int .i64 0], .bool false, .bool false]) ∧ Below w.heap.size w w' := by
  go_enter Try.func9, Try.ntmps9
  go_wp2_with fail
  refine (refRight_any _ _ _ _).mono ?_
  rintro e w1 ⟨rfl, rfl⟩
  rw [HR.out]
  go_wp2_with fail
  refine wp_loop_rounds 5 ?_
  rw [rounds_succ]
  go_wp2_with fail
  go_quiet (fail)
  go_wp2_with fail
  rw [rounds_succ]
  go_wp2_with fail
  go_quiet (fail)
  go_wp2_with fail
  exact bodyPost_ret (v := .tuple #[.agg #[.int .i64 0, .int .i64 0, .int .i64 0, .int .i64 0, .int .i64 0], .agg #[.int .i64 0, .int .i64 0], .bool false, .bool false]) (by simp [results, Try.results9, go_sem]) rfl ⟨rfl, by repeat (first | with_reducible exact Below.refl _ _ | with_reducible refine Below.drew ?_ | with_reducible refine below_drewN ?_ _ | with_reducible refine Below.setCell ?_ (by simp <;> omega) _ | with_reducible refine Below.alloc ?_ (by simp <;> omega) _)⟩
set_option maxHeartbeats 1000000 in
theorem rp_bad11 (sp st sz s u0 u1 u2 u3 q n : Int) (w : World) (HR : Hid (rightR sp st sz = true)) (g0 : decide (s < 0) = false) (g1 : decide (1073741824 ≤ s) = false) (g2 : decide (q < 1) = false) (g3 : decide (1099511627776 < q) = false) (g4 : decide (n < 1) = false) (g5 : decide (90 < n) = false) (e0 : decide (u0 < 0) = false) (f0 : decide (sz < u0) = false) (e1 : decide (u1 < 0) = false) (f1 : decide (sz < u1) = true) :
    Calls Try.prog 9 #[.agg #[.int .i64 sp, .int .i64 st, .int .i64 sz], .agg #[.int .i64 s, .int .i64 u0, .int .i64 u1, .int .i64 u2, .int .i64 u3], .int .i64 q, .int .i64 n] w fun e w' =>
      e = .returned (.tuple #[.agg #[.int .i64 0, .int .i64 0, .int .i64 0, .int .i64 0, .int .i64 0], .agg #[.int .i64 0, .int .i64 0], .bool false, .bool false]) ∧ Below w.heap.size w w' := by
  go_enter Try.func9, Try.ntmps9
  go_wp2_with fail
  refine (refRight_any _ _ _ _).mono ?_
  rintro e w1 ⟨rfl, rfl⟩
  rw [HR.out]
  go_wp2_with fail
  refine wp_loop_rounds 5 ?_
  rw [rounds_succ]
  go_wp2_with fail
  go_quiet (fail)
  go_wp2_with fail
  rw [rounds_succ]
  go_wp2_with fail
  go_quiet (fail)
  go_wp2_with fail
  exact bodyPost_ret (v := .tuple #[.agg #[.int .i64 0, .int .i64 0, .int .i64 0, .int .i64 0, .int .i64 0], .agg #[.int .i64 0, .int .i64 0], .bool false, .bool false]) (by simp [results, Try.results9, go_sem]) rfl ⟨rfl, by repeat (first | with_reducible exact Below.refl _ _ | with_reducible refine Below.drew ?_ | with_reducible refine below_drewN ?_ _ | with_reducible refine Below.setCell ?_ (by simp <;> omega) _ | with_reducible refine Below.alloc ?_ (by simp <;> omega) _)⟩
set_option maxHeartbeats 1000000 in
theorem rp_bad20 (sp st sz s u0 u1 u2 u3 q n : Int) (w : World) (HR : Hid (rightR sp st sz = true)) (g0 : decide (s < 0) = false) (g1 : decide (1073741824 ≤ s) = false) (g2 : decide (q < 1) = false) (g3 : decide (1099511627776 < q) = false) (g4 : decide (n < 1) = false) (g5 : decide (90 < n) = false) (e0 : decide (u0 < 0) = false) (f0 : decide (sz < u0) = false) (e1 : decide (u1 < 0) = false) (f1 : decide (sz < u1) = false) (e2 : decide (u2 < 0) = true) :
    Calls Try.prog 9 #[.agg #[.int .i64 sp, .int .i64 st, .int .i64 sz], .agg #[.int .i64 s, .int .i64 u0, .int .i64 u1, .int .i64 u2, .int .i64 u3], .int .i64 q, .int .i64 n] w fun e w' =>
      e = .returned (.tuple #[.agg #[.int .i64 0, .int .i64 0, .int .i64 0, .int .i64 0, .int .i64 0], .agg #[.int .i64 0, .int .i64 0], .bool false, .bool false]) ∧ Below w.heap.size w w' := by
  go_enter Try.func9, Try.ntmps9
  go_wp2_with fail
  refine (refRight_any _ _ _ _).mono ?_
  rintro e w1 ⟨rfl, rfl⟩
  rw [HR.out]
  go_wp2_with fail
  refine wp_loop_rounds 5 ?_
  rw [rounds_succ]
  go_wp2_with fail
  go_quiet (fail)
  go_wp2_with fail
  rw [rounds_succ]
  go_wp2_with fail
  go_quiet (fail)
  go_wp2_with fail
  rw [rounds_succ]
  go_wp2_with fail
  go_quiet (fail)
  go_wp2_with fail
  exact bodyPost_ret (v := .tuple #[.agg #[.int .i64 0, .int .i64 0, .int .i64 0, .int .i64 0, .int .i64 0], .agg #[.int .i64 0, .int .i64 0], .bool false, .bool false]) (by simp [results, Try.results9, go_sem]) rfl ⟨rfl, by repeat (first | with_reducible exact Below.refl _ _ | with_reducible refine Below.drew ?_ | with_reducible refine below_drewN ?_ _ | with_reducible refine Below.setCell ?_ (by simp <;> omega) _ | with_reducible refine Below.alloc ?_ (by simp <;> omega) _)⟩
set_option maxHeartbeats 1000000 in
theorem rp_bad21 (sp st sz s u0 u1 u2 u3 q n : Int) (w : World) (HR : Hid (rightR sp st sz = true)) (g0 : decide (s < 0) = false) (g1 : decide (1073741824 ≤ s) = false) (g2 : decide (q < 1) = false) (g3 : decide (1099511627776 < q) = false) (g4 : decide (n < 1) = false) (g5 : decide (90 < n) = false) (e0 : decide (u0 < 0) = false) (f0 : decide (sz < u0) = false) (e1 : decide (u1 < 0) = false) (f1 : decide (sz < u1) = false) (e2 : decide (u2 < 0) = false) (f2 : decide (sz < u2) = true) :
    Calls Try.prog 9 #[.agg #[.int .i64 sp, .int .i64 st, .int .i64 sz], .agg #[.int .i64 s, .int .i64 u0, .int .i64 u1, .int .i64 u2, .int .i64 u3], .int .i64 q, .int .i64 n] w fun e w' =>
      e = .returned (.tuple #[.agg #[.int .i64 0, .int .i64 0, .int .i64 0, .int .i64 0, .int .i64 0], .agg #[.int .i64 0, .int .i64 0], .bool false, .bool false]) ∧ Below w.heap.size w w' := by
  go_enter Try.func9, Try.ntmps9
  go_wp2_with fail
  refine (refRight_any _ _ _ _).mono ?_
  rintro e w1 ⟨rfl, rfl⟩
  rw [HR.out]
  go_wp2_with fail
  refine wp_loop_rounds 5 ?_
  rw [rounds_succ]
  go_wp2_with fail
  go_quiet (fail)
  go_wp2_with fail
  rw [rounds_succ]
  go_wp2_with fail
  go_quiet (fail)
  go_wp2_with fail
  rw [rounds_succ]
  go_wp2_with fail
  go_quiet (fail)
  go_wp2_with fail
  exact bodyPost_ret (v := .tuple #[.agg #[.int .i64 0, .int .i64 0, .int .i64 0, .int .i64 0, .int .i64 0], .agg #[.int .i64 0, .int .i64 0], .bool false, .bool false]) (by simp [results, Try.results9, go_sem]) rfl ⟨rfl, by repeat (first | with_reducible exact Below.refl _ _ | with_reducible refine Below.drew ?_ | with_reducible refine below_drewN ?_ _ | with_reducible refine Below.setCell ?_ (by simp <;> omega) _ | with_reducible refine Below.alloc ?_ (by simp <;> omega) _)⟩
set_option maxHeartbeats 1000000 in
theorem rp_bad30 (sp st sz s u0 u1 u2 u3 q n : Int) (w : World) (HR : Hid (rightR sp st sz = true)) (g0 : decide (s < 0) = false) (g1 : decide (1073741824 ≤ s) = false) (g2 : decide (q < 1) = false) (g3 : decide (1099511627776 < q) = false) (g4 : decide (n < 1) = false) (g5 : decide (90 < n) = false) (e0 : decide (u0 < 0) = false) (f0 : decide (sz < u0) = false) (e1 : decide (u1 < 0) = false) (f1 : decide (sz < u1) = false) (e2 : decide (u2 < 0) = false) (f2 : decide (sz < u2) = false) (e3 : decide (u3 < 0) = true) :
    Calls Try.prog 9 #[.agg #[.int .i64 sp, .int .i64 st, .int .i64 sz], .agg #[.int .i64 s, .int .i64 u0, .int .i64 u1, .int .i64 u2, .int .i64 u3], .int .i64 q, .int .i64 n] w fun e w' =>
      e = .returned (.tuple #[.agg #[.int .i64 0, .int .i64 0, .int .i64 0, .int .i64 0, .int .i64 0], .agg #[.int .i64 0, .int .i64 0], .bool false, .bool false]) ∧ Below w.heap.size w w' := by
  go_enter Try.func9, Try.ntmps9
  go_wp2_with fail
  refine (refRight_any _ _ _ _).mono ?_
  rintro e w1 ⟨rfl, rfl⟩
  rw [HR.out]
  go_wp2_with fail
  refine wp_loop_rounds 5 ?_
  rw [rounds_succ]
  go_wp2_with fail
  go_quiet (fail)
  go_wp2_with fail
  rw [rounds_succ]
  go_wp2_with fail
  go_quiet (fail)
  go_wp2_with fail
  rw [rounds_succ]
  go_wp2_with fail
  go_quiet (fail)
  go_wp2_with fail
  rw [rounds_succ]
  go_wp2_with fail
  go_quiet (fail)
  go_wp2_with fail
  exact bodyPost_ret (v := .tuple #[.agg #[.int .i64 0, .int .i64 0, .int .i64 0, .int .i64 0, .int .i64 0], .agg #[.int .i64 0, .int .i64 0], .bool false, .bool false]) (by simp [results, Try.results9, go_sem]) rfl ⟨rfl, by repeat (first | with_reducible exact Below.refl _ _ | with_reducible refine Below.drew ?_ | with_reducible refine below_drewN ?_ _ | with_reducible refine Below.setCell ?_ (by simp <;> omega) _ | with_reducible refine Below.alloc ?_ (by simp <;> omega) _)⟩
set_option maxHeartbeats 1000000 in
theorem rp_bad31 (sp st sz s u0 u1 u2 u3 q n : Int) (w : World) (HR : Hid (rightR sp st sz = true)) (g0 : decide (s < 0) = false) (g1 : decide (1073741824 ≤ s) = false) (g2 : decide (q < 1) = false) (g3 : decide (1099511627776 < q) = false) (g4 : decide (n < 1) = false) (g5 : decide (90 < n) = false) (e0 : decide (u0 < 0) = false) (f0 : decide (sz < u0) = false) (e1 : decide (u1 < 0) = false) (f1 : decide (sz < u1) = false) (e2 : decide (u2 < 0) = false) (f2 : decide (sz < u2) = false) (e3 : decide (u3 < 0) = false) (f3 : decide (sz < u3) = true) :
    Calls Try.prog 9 #[.agg #[.int .i64 sp, .int .i64 st, .int .i64 sz], .agg #[.int .i64 s, .int .i64 u0, .int .i64 u1, .int .i64 u2, .int .i64 u3], .int .i64 q, .int .i64 n] w fun e w' =>
      e = .returned (.tuple #[.agg #[.int .i64 0, .int .i64 0, .int .i64 0, .int .i64 0, .int .i64 0], .agg #[.int .i64 0, .int .i64 0], .bool false, .bool false]) ∧ Below w.heap.size w w' := by
  go_enter Try.func9, Try.ntmps9
  go_wp2_with fail
  refine (refRight_any _ _ _ _).mono ?_
  rintro e w1 ⟨rfl, rfl⟩
  rw [HR.out]
  go_wp2_with fail
  refine wp_loop_rounds 5 ?_
  rw [rounds_succ]
  go_wp2_with fail
  go_quiet (fail)
  go_wp2_with fail
  rw [rounds_succ]
  go_wp2_with fail
  go_quiet (fail)
  go_wp2_with fail
  rw [rounds_succ]
  go_wp2_with fail
  go_quiet (fail)
  go_wp2_with fail
  rw [rounds_succ]
  go_wp2_with fail
  go_quiet (fail)
  go_wp2_with fail
  exact bodyPost_ret (v := .tuple #[.agg #[.int .i64 0, .int .i64 0, .int .i64 0, .int .i64 0, .int .i64 0], .agg #[.int .i64 0, .int .i64 0], .bool false, .bool false]) (by simp [results, Try.results9, go_sem]) rfl ⟨rfl, by repeat (first | with_reducible exact Below.refl _ _ | with_reducible refine Below.drew ?_ | with_reducible refine below_drewN ?_ _ | with_reducible refine Below.setCell ?_ (by simp <;> omega) _ | with_reducible refine Below.alloc ?_ (by simp <;> omega) _)⟩
end Go.Proofs.Ytidcgbegpmihaaa
