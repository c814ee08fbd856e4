/- hectographref10.Put, one theorem a way: what it answers; nothing that was there is written. Conditions: those that each theorem states. -/
import Derived.Test.YtidcgbegpmihaaaRingB
import Derived.LoopN
namespace Go.Proofs.Ytidcgbegpmihaaa
open Go.RowKit

set_option maxHeartbeats 1000000 in
theorem rp_fit0 (sp st sz s u0 u1 u2 u3 q n : Int) (w : World) (h : okP sp st sz s u0 u1 u2 u3 q n = true) (hq : q % sp = 0) (hg : u0 + (n + 22) ≤ sz) :
    Calls Try.prog 9 #[.agg #[.int .i64 sp, .int .i64 st, .int .i64 sz], .agg #[.int .i64 s, .int .i64 u0, .int .i64 u1, .int .i64 u2, .int .i64 u3], .int .i64 q, .int .i64 n] w fun e w' =>
      e = .returned (.tuple #[.agg #[.int .i64 s, .int .i64 (u0 + (n + 22)), .int .i64 u1, .int .i64 u2, .int .i64 u3], .agg #[.int .i64 s, .int .i64 0], .bool false, .bool true]) ∧ Below w.heap.size w w' := by
  obtain ⟨⟨hr, hf⟩, ⟨p1, p2⟩, ⟨z1, z2⟩, ⟨a1, a2⟩, ⟨b1, b2⟩, ⟨c1, c2⟩, ⟨d1, d2⟩, ⟨s1, s2⟩, ⟨q1, q2⟩, ⟨n1, n2⟩⟩ := okP_yes h
  have HR := Lib.hid hr
  clear hr hf h
  have q3 : decide (q < 1) = false := by simp; omega
  have q4 : decide (1099511627776 < q) = false := by simp; omega
  have n3 : decide (n < 1) = false := by simp; omega
  have n4 : decide (90 < n) = false := by simp; omega
  have s3 : decide (s < 0) = false := by simp; omega
  have s4 : decide (1073741824 ≤ s) = false := by simp; omega
  have e0 : decide (u0 < 0) = false := by simp; omega
  have f0 : decide (sz < u0) = false := by simp; omega
  have e1 : decide (u1 < 0) = false := by simp; omega
  have f1 : decide (sz < u1) = false := by simp; omega
  have e2 : decide (u2 < 0) = false := by simp; omega
  have f2 : decide (sz < u2) = false := by simp; omega
  have e3 : decide (u3 < 0) = false := by simp; omega
  have f3 : decide (sz < u3) = false := by simp; omega
  go_enter Try.func9, Try.ntmps9
  go_wp2_with fail
  refine (refRight_any _ _ _ _).mono ?_
  rintro e w1 ⟨rfl, rfl⟩
  rw [HR.out]
  go_wp2_with fail
  refine wp_loop_rounds 5 ?_
  rw [rounds_succ]
  go_wp2_with fail
  go_quiet (fail)
  go_wp2_with fail
  rw [rounds_succ]
  go_wp2_with fail
  go_quiet (fail)
  go_wp2_with fail
  rw [rounds_succ]
  go_wp2_with fail
  go_quiet (fail)
  go_wp2_with fail
  rw [rounds_succ]
  go_wp2_with fail
  go_quiet (fail)
  go_wp2_with fail
  rw [rounds_succ]
  go_wp2_with fail
  go_quiet (fail)
  go_wp2_with fail
  go_region
  go_wp2_with fail
  exact bodyPost_ret (v := .tuple #[.agg #[.int .i64 s, .int .i64 (u0 + (n + 22)), .int .i64 u1, .int .i64 u2, .int .i64 u3], .agg #[.int .i64 s, .int .i64 0], .bool false, .bool true]) (by simp [results, Try.results9, go_sem]) rfl ⟨rfl, by repeat (first | with_reducible exact Below.refl _ _ | with_reducible refine Below.drew ?_ | with_reducible refine below_drewN ?_ _ | with_reducible refine Below.setCell ?_ (by simp <;> omega) _ | with_reducible refine Below.alloc ?_ (by simp <;> omega) _)⟩
set_option maxHeartbeats 1000000 in
theorem rp_next0 (sp st sz s u0 u1 u2 u3 q n : Int) (w : World) (h : okP sp st sz s u0 u1 u2 u3 q n = true) (hq : q % sp = 0) (hg : sz < u0 + (n + 22)) :
    Calls Try.prog 9 #[.agg #[.int .i64 sp, .int .i64 st, .int .i64 sz], .agg #[.int .i64 s, .int .i64 u0, .int .i64 u1, .int .i64 u2, .int .i64 u3], .int .i64 q, .int .i64 n] w fun e w' =>
      e = .returned (.tuple #[.agg #[.int .i64 (s + 1), .int .i64 (n + 22), .int .i64 0, .int .i64 0, .int .i64 0], .agg #[.int .i64 (s + 1), .int .i64 0], .bool true, .bool true]) ∧ Below w.heap.size w w' := by
  obtain ⟨⟨hr, hf⟩, ⟨p1, p2⟩, ⟨z1, z2⟩, ⟨a1, a2⟩, ⟨b1, b2⟩, ⟨c1, c2⟩, ⟨d1, d2⟩, ⟨s1, s2⟩, ⟨q1, q2⟩, ⟨n1, n2⟩⟩ := okP_yes h
  have HR := Lib.hid hr
  clear hr hf h
  have q3 : decide (q < 1) = false := by simp; omega
  have q4 : decide (1099511627776 < q) = false := by simp; omega
  have n3 : decide (n < 1) = false := by simp; omega
  have n4 : decide (90 < n) = false := by simp; omega
  have s3 : decide (s < 0) = false := by simp; omega
  have s4 : decide (1073741824 ≤ s) = false := by simp; omega
  have e0 : decide (u0 < 0) = false := by simp; omega
  have f0 : decide (sz < u0) = false := by simp; omega
  have e1 : decide (u1 < 0) = false := by simp; omega
  have f1 : decide (sz < u1) = false := by simp; omega
  have e2 : decide (u2 < 0) = false := by simp; omega
  have f2 : decide (sz < u2) = false := by simp; omega
  have e3 : decide (u3 < 0) = false := by simp; omega
  have f3 : decide (sz < u3) = false := by simp; omega
  go_enter Try.func9, Try.ntmps9
  go_wp2_with fail
  refine (refRight_any _ _ _ _).mono ?_
  rintro e w1 ⟨rfl, rfl⟩
  rw [HR.out]
  go_wp2_with fail
  refine wp_loop_rounds 5 ?_
  rw [rounds_succ]
  go_wp2_with fail
  go_quiet (fail)
  go_wp2_with fail
  rw [rounds_succ]
  go_wp2_with fail
  go_quiet (fail)
  go_wp2_with fail
  rw [rounds_succ]
  go_wp2_with fail
  go_quiet (fail)
  go_wp2_with fail
  rw [rounds_succ]
  go_wp2_with fail
  go_quiet (fail)
  go_wp2_with fail
  rw [rounds_succ]
  go_wp2_with fail
  go_quiet (fail)
  go_wp2_with fail
  go_region
  go_wp2_with fail
  exact bodyPost_ret (v := .tuple #[.agg #[.int .i64 (s + 1), .int .i64 (n + 22), .int .i64 0, .int .i64 0, .int .i64 0], .agg #[.int .i64 (s + 1), .int .i64 0], .bool true, .bool true]) (by simp [results, Try.results9, go_sem]) rfl ⟨rfl, by repeat (first | with_reducible exact Below.refl _ _ | with_reducible refine Below.drew ?_ | with_reducible refine below_drewN ?_ _ | with_reducible refine Below.setCell ?_ (by simp <;> omega) _ | with_reducible refine Below.alloc ?_ (by simp <;> omega) _)⟩
set_option maxHeartbeats 1000000 in
theorem rp_fit1 (sp st sz s u0 u1 u2 u3 q n : Int) (w : World) (h : okP sp st sz s u0 u1 u2 u3 q n = true) (hq : q % sp = 1) (hg : u1 + (n + 22) ≤ sz) :
    Calls Try.prog 9 #[.agg #[.int .i64 sp, .int .i64 st, .int .i64 sz], .agg #[.int .i64 s, .int .i64 u0, .int .i64 u1, .int .i64 u2, .int .i64 u3], .int .i64 q, .int .i64 n] w fun e w' =>
      e = .returned (.tuple #[.agg #[.int .i64 s, .int .i64 u0, .int .i64 (u1 + (n + 22)), .int .i64 u2, .int .i64 u3], .agg #[.int .i64 s, .int .i64 1], .bool false, .bool true]) ∧ Below w.heap.size w w' := by
  obtain ⟨⟨hr, hf⟩, ⟨p1, p2⟩, ⟨z1, z2⟩, ⟨a1, a2⟩, ⟨b1, b2⟩, ⟨c1, c2⟩, ⟨d1, d2⟩, ⟨s1, s2⟩, ⟨q1, q2⟩, ⟨n1, n2⟩⟩ := okP_yes h
  have HR := Lib.hid hr
  clear hr hf h
  have q3 : decide (q < 1) = false := by simp; omega
  have q4 : decide (1099511627776 < q) = false := by simp; omega
  have n3 : decide (n < 1) = false := by simp; omega
  have n4 : decide (90 < n) = false := by simp; omega
  have s3 : decide (s < 0) = false := by simp; omega
  have s4 : decide (1073741824 ≤ s) = false := by simp; omega
  have e0 : decide (u0 < 0) = false := by simp; omega
  have f0 : decide (sz < u0) = false := by simp; omega
  have e1 : decide (u1 < 0) = false := by simp; omega
  have f1 : decide (sz < u1) = false := by simp; omega
  have e2 : decide (u2 < 0) = false := by simp; omega
  have f2 : decide (sz < u2) = false := by simp; omega
  have e3 : decide (u3 < 0) = false := by simp; omega
  have f3 : decide (sz < u3) = false := by simp; omega
  go_enter Try.func9, Try.ntmps9
  go_wp2_with fail
  refine (refRight_any _ _ _ _).mono ?_
  rintro e w1 ⟨rfl, rfl⟩
  rw [HR.out]
  go_wp2_with fail
  refine wp_loop_rounds 5 ?_
  rw [rounds_succ]
  go_wp2_with fail
  go_quiet (fail)
  go_wp2_with fail
  rw [rounds_succ]
  go_wp2_with fail
  go_quiet (fail)
  go_wp2_with fail
  rw [rounds_succ]
  go_wp2_with fail
  go_quiet (fail)
  go_wp2_with fail
  rw [rounds_succ]
  go_wp2_with fail
  go_quiet (fail)
  go_wp2_with fail
  rw [rounds_succ]
  go_wp2_with fail
  go_quiet (fail)
  go_wp2_with fail
  go_region
  go_wp2_with fail
  exact bodyPost_ret (v := .tuple #[.agg #[.int .i64 s, .int .i64 u0, .int .i64 (u1 + (n + 22)), .int .i64 u2, .int .i64 u3], .agg #[.int .i64 s, .int .i64 1], .bool false, .bool true]) (by simp [results, Try.results9, go_sem]) rfl ⟨rfl, by repeat (first | with_reducible exact Below.refl _ _ | with_reducible refine Below.drew ?_ | with_reducible refine below_drewN ?_ _ | with_reducible refine Below.setCell ?_ (by simp <;> omega) _ | with_reducible refine Below.alloc ?_ (by simp <;> omega) _)⟩
set_option maxHeartbeats 1000000 in
theorem rp_next1 (sp st sz s u0 u1 u2 u3 q n : Int) (w : World) (h : okP sp st sz s u0 u1 u2 u3 q n = true) (hq : q % sp = 1) (hg : sz < u1 + (n + 22)) :
    Calls Try.prog 9 #[.agg #[.int .i64 sp, .int .i64 st, .int .i64 sz], .agg #[.int .i64 s, .int .i64 u0, .int .i64 u1, .int .i64 u2, .int .i64 u3], .int .i64 q, .int .i64 n] w fun e w' =>
      e = .returned (.tuple #[.agg #[.int .i64 (s + 1), .int .i64 0, .int .i64 (n + 22), .int .i64 0, .int .i64 0], .agg #[.int .i64 (s + 1), .int .i64 1], .bool true, .bool true]) ∧ Below w.heap.size w w' := by
  obtain ⟨⟨hr, hf⟩, ⟨p1, p2⟩, ⟨z1, z2⟩, ⟨a1, a2⟩, ⟨b1, b2⟩, ⟨c1, c2⟩, ⟨d1, d2⟩, ⟨s1, s2⟩, ⟨q1, q2⟩, ⟨n1, n2⟩⟩ := okP_yes h
  have HR := Lib.hid hr
  clear hr hf h
  have q3 : decide (q < 1) = false := by simp; omega
  have q4 : decide (1099511627776 < q) = false := by simp; omega
  have n3 : decide (n < 1) = false := by simp; omega
  have n4 : decide (90 < n) = false := by simp; omega
  have s3 : decide (s < 0) = false := by simp; omega
  have s4 : decide (1073741824 ≤ s) = false := by simp; omega
  have e0 : decide (u0 < 0) = false := by simp; omega
  have f0 : decide (sz < u0) = false := by simp; omega
  have e1 : decide (u1 < 0) = false := by simp; omega
  have f1 : decide (sz < u1) = false := by simp; omega
  have e2 : decide (u2 < 0) = false := by simp; omega
  have f2 : decide (sz < u2) = false := by simp; omega
  have e3 : decide (u3 < 0) = false := by simp; omega
  have f3 : decide (sz < u3) = false := by simp; omega
  go_enter Try.func9, Try.ntmps9
  go_wp2_with fail
  refine (refRight_any _ _ _ _).mono ?_
  rintro e w1 ⟨rfl, rfl⟩
  rw [HR.out]
  go_wp2_with fail
  refine wp_loop_rounds 5 ?_
  rw [rounds_succ]
  go_wp2_with fail
  go_quiet (fail)
  go_wp2_with fail
  rw [rounds_succ]
  go_wp2_with fail
  go_quiet (fail)
  go_wp2_with fail
  rw [rounds_succ]
  go_wp2_with fail
  go_quiet (fail)
  go_wp2_with fail
  rw [rounds_succ]
  go_wp2_with fail
  go_quiet (fail)
  go_wp2_with fail
  rw [rounds_succ]
  go_wp2_with fail
  go_quiet (fail)
  go_wp2_with fail
  go_region
  go_wp2_with fail
  exact bodyPost_ret (v := .tuple #[.agg #[.int .i64 (s + 1), .int .i64 0, .int .i64 (n + 22), .int .i64 0, .int .i64 0], .agg #[.int .i64 (s + 1), .int .i64 1], .bool true, .bool true]) (by simp [results, Try.results9, go_sem]) rfl ⟨rfl, by repeat (first | with_reducible exact Below.refl _ _ | with_reducible refine Below.drew ?_ | with_reducible refine below_drewN ?_ _ | with_reducible refine Below.setCell ?_ (by simp <;> omega) _ | with_reducible refine Below.alloc ?_ (by simp <;> omega) _)⟩
set_option maxHeartbeats 1000000 in
theorem rp_fit2 (sp st sz s u0 u1 u2 u3 q n : Int) (w : World) (h : okP sp st sz s u0 u1 u2 u3 q n = true) (hq : q % sp = 2) (hg : u2 + (n + 22) ≤ sz) :
    Calls Try.prog 9 #[.agg #[.int .i64 sp, .int .i64 st, .int .i64 sz], .agg #[.int .i64 s, .int .i64 u0, .int .i64 u1, .int .i64 u2, .int .i64 u3], .int .i64 q, .int .i64 n] w fun e w' =>
      e = .returned (.tuple #[.agg #[.int .i64 s, .int .i64 u0, .int .i64 u1, .int .i64 (u2 + (n + 22)), .int .i64 u3], .agg #[.int .i64 s, .int .i64 2], .bool false, .bool true]) ∧ Below w.heap.size w w' := by
  obtain ⟨⟨hr, hf⟩, ⟨p1, p2⟩, ⟨z1, z2⟩, ⟨a1, a2⟩, ⟨b1, b2⟩, ⟨c1, c2⟩, ⟨d1, d2⟩, ⟨s1, s2⟩, ⟨q1, q2⟩, ⟨n1, n2⟩⟩ := okP_yes h
  have HR := Lib.hid hr
  clear hr hf h
  have q3 : decide (q < 1) = false := by simp; omega
  have q4 : decide (1099511627776 < q) = false := by simp; omega
  have n3 : decide (n < 1) = false := by simp; omega
  have n4 : decide (90 < n) = false := by simp; omega
  have s3 : decide (s < 0) = false := by simp; omega
  have s4 : decide (1073741824 ≤ s) = false := by simp; omega
  have e0 : decide (u0 < 0) = false := by simp; omega
  have f0 : decide (sz < u0) = false := by simp; omega
  have e1 : decide (u1 < 0) = false := by simp; omega
  have f1 : decide (sz < u1) = false := by simp; omega
  have e2 : decide (u2 < 0) = false := by simp; omega
  have f2 : decide (sz < u2) = false := by simp; omega
  have e3 : decide (u3 < 0) = false := by simp; omega
  have f3 : decide (sz < u3) = false := by simp; omega
  go_enter Try.func9, Try.ntmps9
  go_wp2_with fail
  refine (refRight_any _ _ _ _).mono ?_
  rintro e w1 ⟨rfl, rfl⟩
  rw [HR.out]
  go_wp2_with fail
  refine wp_loop_rounds 5 ?_
  rw [rounds_succ]
  go_wp2_with fail
  go_quiet (fail)
  go_wp2_with fail
  rw [rounds_succ]
  go_wp2_with fail
  go_quiet (fail)
  go_wp2_with fail
  rw [rounds_succ]
  go_wp2_with fail
  go_quiet (fail)
  go_wp2_with fail
  rw [rounds_succ]
  go_wp2_with fail
  go_quiet (fail)
  go_wp2_with fail
  rw [rounds_succ]
  go_wp2_with fail
  go_quiet (fail)
  go_wp2_with fail
  go_region
  go_wp2_with fail
  exact bodyPost_ret (v := .tuple #[.agg #[.int .i64 s, .int .i64 u0, .int .i64 u1, .int .i64 (u2 + (n + 22)), .int .i64 u3], .agg #[.int .i64 s, .int .i64 2], .bool false, .bool true]) (by simp [results, Try.results9, go_sem]) rfl ⟨rfl, by repeat (first | with_reducible exact Below.refl _ _ | with_reducible refine Below.drew ?_ | with_reducible refine below_drewN ?_ _ | with_reducible refine Below.setCell ?_ (by simp <;> omega) _ | with_reducible refine Below.alloc ?_ (by simp <;> omega) _)⟩
set_option maxHeartbeats 1000000 in
theorem rp_next2 (sp st sz s u0 u1 u2 u3 q n : Int) (w : World) (h : okP sp st sz s u0 u1 u2 u3 q n = true) (hq : q % sp = 2) (hg : sz < u2 + (n + 22)) :
    Calls Try.prog 9 #[.agg #[.int .i64 sp, .int .i64 st, .int .i64 sz], .agg #[.int .i64 s, .int .i64 u0, .int .i64 u1, .int .i64 u2, .int .i64 u3], .int .i64 q, .int .i64 n] w fun e w' =>
      e = .returned (.tuple #[.agg #[.int .i64 (s + 1), .int .i64 0, .int .i64 0, .int .i64 (n + 22), .int .i64 0], .agg #[.int .i64 (s + 1), .int .i64 2], .bool true, .bool true]) ∧ Below w.heap.size w w' := by
  obtain ⟨⟨hr, hf⟩, ⟨p1, p2⟩, ⟨z1, z2⟩, ⟨a1, a2⟩, ⟨b1, b2⟩, ⟨c1, c2⟩, ⟨d1, d2⟩, ⟨s1, s2⟩, ⟨q1, q2⟩, ⟨n1, n2⟩⟩ := okP_yes h
  have HR := Lib.hid hr
  clear hr hf h
  have q3 : decide (q < 1) = false := by simp; omega
  have q4 : decide (1099511627776 < q) = false := by simp; omega
  have n3 : decide (n < 1) = false := by simp; omega
  have n4 : decide (90 < n) = false := by simp; omega
  have s3 : decide (s < 0) = false := by simp; omega
  have s4 : decide (1073741824 ≤ s) = false := by simp; omega
  have e0 : decide (u0 < 0) = false := by simp; omega
  have f0 : decide (sz < u0) = false := by simp; omega
  have e1 : decide (u1 < 0) = false := by simp; omega
  have f1 : decide (sz < u1) = false := by simp; omega
  have e2 : decide (u2 < 0) = false := by simp; omega
  have f2 : decide (sz < u2) = false := by simp; omega
  have e3 : decide (u3 < 0) = false := by simp; omega
  have f3 : decide (sz < u3) = false := by simp; omega
  go_enter Try.func9, Try.ntmps9
  go_wp2_with fail
  refine (refRight_any _ _ _ _).mono ?_
  rintro e w1 ⟨rfl, rfl⟩
  rw [HR.out]
  go_wp2_with fail
  refine wp_loop_rounds 5 ?_
  rw [rounds_succ]
  go_wp2_with fail
  go_quiet (fail)
  go_wp2_with fail
  rw [rounds_succ]
  go_wp2_with fail
  go_quiet (fail)
  go_wp2_with fail
  rw [rounds_succ]
  go_wp2_with fail
  go_quiet (fail)
  go_wp2_with fail
  rw [rounds_succ]
  go_wp2_with fail
  go_quiet (fail)
  go_wp2_with fail
  rw [rounds_succ]
  go_wp2_with fail
  go_quiet (fail)
  go_wp2_with fail
  go_region
  go_wp2_with fail
  exact bodyPost_ret (v := .tuple #[.agg #[.int .i64 (s + 1), .int .i64 0, .int .i64 0, .int .i64 (n + 22), .int .i64 0], .agg #[.int .i64 (s + 1), .int .i64 2], .bool true, .bool true]) (by simp [results, Try.results9, go_sem]) rfl ⟨rfl, by repeat (first | with_reducible exact Below.refl _ _ | with_reducible refine Below.drew ?_ | with_reducible refine below_drewN ?_ _ | with_reducible refine Below.setCell ?_ (by simp <;> omega) _ | with_reducible refine Below.alloc ?_ (by simp <;> omega) _)⟩
set_option maxHeartbeats 1000000 in
theorem rp_fit3 (sp st sz s u0 u1 u2 u3 q n : Int) (w : World) (h : okP sp st sz s u0 u1 u2 u3 q n = true) (hq : q % sp = 3) (hg : u3 + (n + 22) ≤ sz) :
    Calls Try.prog 9 #[.agg #[.int .i64 sp, .int .i64 st, .int .i64 sz], .agg #[.int .i64 s, .int .i64 u0, .int .i64 u1, .int .i64 u2, .int .i64 u3], .int .i64 q, .int .i64 n] w fun e w' =>
      e = .returned (.tuple #[.agg #[.int .i64 s, .int .i64 u0, .int .i64 u1, .int .i64 u2, .int .i64 (u3 + (n + 22))], .agg #[.int .i64 s, .int .i64 3], .bool false, .bool true]) ∧ Below w.heap.size w w' := by
  obtain ⟨⟨hr, hf⟩, ⟨p1, p2⟩, ⟨z1, z2⟩, ⟨a1, a2⟩, ⟨b1, b2⟩, ⟨c1, c2⟩, ⟨d1, d2⟩, ⟨s1, s2⟩, ⟨q1, q2⟩, ⟨n1, n2⟩⟩ := okP_yes h
  have HR := Lib.hid hr
  clear hr hf h
  have q3 : decide (q < 1) = false := by simp; omega
  have q4 : decide (1099511627776 < q) = false := by simp; omega
  have n3 : decide (n < 1) = false := by simp; omega
  have n4 : decide (90 < n) = false := by simp; omega
  have s3 : decide (s < 0) = false := by simp; omega
  have s4 : decide (1073741824 ≤ s) = false := by simp; omega
  have e0 : decide (u0 < 0) = false := by simp; omega
  have f0 : decide (sz < u0) = false := by simp; omega
  have e1 : decide (u1 < 0) = false := by simp; omega
  have f1 : decide (sz < u1) = false := by simp; omega
  have e2 : decide (u2 < 0) = false := by simp; omega
  have f2 : decide (sz < u2) = false := by simp; omega
  have e3 : decide (u3 < 0) = false := by simp; omega
  have f3 : decide (sz < u3) = false := by simp; omega
  go_enter Try.func9, Try.ntmps9
  go_wp2_with fail
  refine (refRight_any _ _ _ _).mono ?_
  rintro e w1 ⟨rfl, rfl⟩
  rw [HR.out]
  go_wp2_with fail
  refine wp_loop_rounds 5 ?_
  rw [rounds_succ]
  go_wp2_with fail
  go_quiet (fail)
  go_wp2_with fail
  rw [rounds_succ]
  go_wp2_with fail
  go_quiet (fail)
  go_wp2_with fail
  rw [rounds_succ]
  go_wp2_with fail
  go_quiet (fail)
  go_wp2_with fail
  rw [rounds_succ]
  go_wp2_with fail
  go_quiet (fail)
  go_wp2_with fail
  rw [rounds_succ]
  go_wp2_with fail
  go_quiet (fail)
  go_wp2_with fail
  go_region
  go_wp2_with fail
  exact bodyPost_ret (v := .tuple #[.agg #[.int .i64 s, .int .i64 u0, .int .i64 u1, .int .i64 u2, .int .i64 (u3 + (n + 22))], .agg #[.int .i64 s, .int .i64 3], .bool false, .bool true]) (by simp [results, Try.results9, go_sem]) rfl ⟨rfl, by repeat (first | with_reducible exact Below.refl _ _ | with_reducible refine Below.drew ?_ | with_reducible refine below_drewN ?_ _ | with_reducible refine Below.setCell ?_ (by simp <;> omega) _ | with_reducible refine Below.alloc ?_ (by simp <;> omega) _)⟩
set_option maxHeartbeats 1000000 in
theorem rp_next3 (sp st sz s u0 u1 u2 u3 q n : Int) (w : World) (h : okP sp st sz s u0 u1 u2 u3 q n = true) (hq : q % sp = 3) (hg : sz < u3 + (n + 22)) :
    Calls Try.prog 9 #[.agg #[.int .i64 sp, .int .i64 st, .int .i64 sz], .agg #[.int .i64 s, .int .i64 u0, .int .i64 u1, .int .i64 u2, .int .i64 u3], .int .i64 q, .int .i64 n] w fun e w' =>
      e = .returned (.tuple #[.agg #[.int .i64 (s + 1), .int .i64 0, .int .i64 0, .int .i64 0, .int .i64 (n + 22)], .agg #[.int .i64 (s + 1), .int .i64 3], .bool true, .bool true]) ∧ Below w.heap.size w w' := by
  obtain ⟨⟨hr, hf⟩, ⟨p1, p2⟩, ⟨z1, z2⟩, ⟨a1, a2⟩, ⟨b1, b2⟩, ⟨c1, c2⟩, ⟨d1, d2⟩, ⟨s1, s2⟩, ⟨q1, q2⟩, ⟨n1, n2⟩⟩ := okP_yes h
  have HR := Lib.hid hr
  clear hr hf h
  have q3 : decide (q < 1) = false := by simp; omega
  have q4 : decide (1099511627776 < q) = false := by simp; omega
  have n3 : decide (n < 1) = false := by simp; omega
  have n4 : decide (90 < n) = false := by simp; omega
  have s3 : decide (s < 0) = false := by simp; omega
  have s4 : decide (1073741824 ≤ s) = false := by simp; omega
  have e0 : decide (u0 < 0) = false := by simp; omega
  have f0 : decide (sz < u0) = false := by simp; omega
  have e1 : decide (u1 < 0) = false := by simp; omega
  have f1 : decide (sz < u1) = false := by simp; omega
  have e2 : decide (u2 < 0) = false := by simp; omega
  have f2 : decide (sz < u2) = false := by simp; omega
  have e3 : decide (u3 < 0) = false := by simp; omega
  have f3 : decide (sz < u3) = false := by simp; omega
  go_enter Try.func9, Try.ntmps9
  go_wp2_with fail
  refine (refRight_any _ _ _ _).mono ?_
  rintro e w1 ⟨rfl, rfl⟩
  rw [HR.out]
  go_wp2_with fail
  refine wp_loop_rounds 5 ?_
  rw [rounds_succ]
  go_wp2_with fail
  go_quiet (fail)
  go_wp2_with fail
  rw [rounds_succ]
  go_wp2_with fail
  go_quiet (fail)
  go_wp2_with fail
  rw [rounds_succ]
  go_wp2_with fail
  go_quiet (fail)
  go_wp2_with fail
  rw [rounds_succ]
  go_wp2_with fail
  go_quiet (fail)
  go_wp2_with fail
  rw [rounds_succ]
  go_wp2_with fail
  go_quiet (fail)
  go_wp2_with fail
  go_region
  go_wp2_with fail
  exact bodyPost_ret (v := .tuple #[.agg #[.int .i64 (s + 1), .int .i64 0, .int .i64 0, .int .i64 0, .int .i64 (n + 22)], .agg #[.int .i64 (s + 1), .int .i64 3], .bool true, .bool true]) (by simp [results, Try.results9, go_sem]) rfl ⟨rfl, by repeat (first | with_reducible exact Below.refl _ _ | with_reducible refine Below.drew ?_ | with_reducible refine below_drewN ?_ _ | with_reducible refine Below.setCell ?_ (by simp <;> omega) _ | with_reducible refine Below.alloc ?_ (by simp <;> omega) _)⟩
end Go.Proofs.Ytidcgbegpmihaaa
