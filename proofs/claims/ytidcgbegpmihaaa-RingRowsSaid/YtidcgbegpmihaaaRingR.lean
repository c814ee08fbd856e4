/- How many sets more a row begins, from any number on. -/
import Derived.Test.YtidcgbegpmihaaaRingN
import Derived.LoopN
namespace Go.Proofs.Ytidcgbegpmihaaa
open Go.RowKit

set_option maxRecDepth 20000 in
set_option maxHeartbeats 1000000 in
theorem need_big (sp st sz s0 t0 t1 t2 t3 q : Int) (A : Option Addr) (n c : Nat) (l : List Int) (w : World) (h : Reads w w.heap.size 1 A n c (cells .i64 l)) (h1 : 1099511627776 < q) :
    Calls Try.prog 19 #[.agg #[.int .i64 sp, .int .i64 st, .int .i64 sz], .agg #[.int .i64 s0, .int .i64 t0, .int .i64 t1, .int .i64 t2, .int .i64 t3], .int .i64 q, .slice A n c] w fun e w' =>
      e = .returned (.int .i64 0) ∧ Below w.heap.size w w' := by
  have hbig := h.big
  have d2 : decide (1099511627776 < q) = true := dec_yes h1
  by_cases hn : 0 < n
  · obtain ⟨b, o, x, rfl, hbb, hx, hc⟩ := h.at_ hn
    have HX := Lib.hid hx
    clear hx
    rw [Nat.add_zero] at hc
    have hn2 : (0 : Int) < (n : Int) := by omega
    have hb1 : b < w.heap.size + 1 := by omega
    go_enter Try.func19, Try.ntmps19
    go_wp2_with fail
    refine wp_loop_rounds 1 ?_
    rw [rounds_succ]
    go_wp2_with fail
    go_ret
    exact ⟨rfl, by repeat (first | with_reducible exact Below.refl _ _ | with_reducible refine Below.alloc ?_ (by first | omega | (simp <;> omega)) _)⟩
  · obtain rfl : n = 0 := by omega
    go_enter Try.func19, Try.ntmps19
    go_wp2_with fail
    refine wp_loop_rounds 1 ?_
    rw [rounds_succ]
    go_wp2_with fail
    go_ret
    exact ⟨rfl, by repeat (first | with_reducible exact Below.refl _ _ | with_reducible refine Below.alloc ?_ (by first | omega | (simp <;> omega)) _)⟩

theorem put_small {sp st sz s u0 u1 u2 u3 q n : Int} (h : q < 1) : putM sp st sz s u0 u1 u2 u3 q n = ((0, 0, 0, 0, 0), (0, 0), false, false) := by
  apply putM_no
  have : decide (1 ≤ q) = false := dec_no (by omega)
  simp only [okP, this, Bool.and_false, Bool.false_and]

set_option maxRecDepth 20000 in
set_option maxHeartbeats 1000000 in
theorem need_small (sp st sz s0 t0 t1 t2 t3 q : Int) (A : Option Addr) (n c : Nat) (l : List Int) (w : World) (h : Reads w w.heap.size 1 A n c (cells .i64 l)) (h1 : q < 1) (hq : -9223372036854775808 ≤ q) :
    Calls Try.prog 19 #[.agg #[.int .i64 sp, .int .i64 st, .int .i64 sz], .agg #[.int .i64 s0, .int .i64 t0, .int .i64 t1, .int .i64 t2, .int .i64 t3], .int .i64 q, .slice A n c] w fun e w' =>
      e = .returned (.int .i64 0) ∧ Below w.heap.size w w' := by
  have hbig := h.big
  have d2 : decide (1099511627776 < q) = false := dec_no (by omega)
  by_cases hn : 0 < n
  · obtain ⟨b, o, x, rfl, hbb, hx, hc⟩ := h.at_ hn
    have HX := Lib.hid hx
    clear hx
    rw [Nat.add_zero] at hc
    have hn2 : (0 : Int) < (n : Int) := by omega
    have hb1 : b < w.heap.size + 1 := by omega
    go_enter Try.func19, Try.ntmps19
    go_wp2_with fail
    refine wp_loop_rounds 1 ?_
    rw [rounds_succ]
    go_wp2_with fail
    refine (put_any _ _ _ _ _ _ _ _ _ _ _).mono ?_
    rintro e w1 ⟨g0, g1, g2, g3, g4, p0, p1, nx, ok, rfl, hM, hb1⟩
    rw [put_small h1] at hM
    simp only [Prod.mk.injEq] at hM
    obtain ⟨⟨rfl, rfl, rfl, rfl, rfl⟩, ⟨rfl, rfl⟩, rfl, rfl⟩ := hM
    have hbw : Below w.heap.size w w1 := Below.trans (B := w.heap.size) (a := w) (by repeat (first | with_reducible exact Below.refl _ _ | with_reducible refine Below.alloc ?_ (by first | omega | (simp <;> omega)) _)) (hb1.mono (by simp <;> omega))
    have hs := hbw.size
    go_wp2_with fail
    go_ret
    exact ⟨rfl, by repeat (first | with_reducible exact hbw | with_reducible refine Below.alloc ?_ (by first | omega | (simp <;> omega)) _)⟩
  · obtain rfl : n = 0 := by omega
    go_enter Try.func19, Try.ntmps19
    go_wp2_with fail
    refine wp_loop_rounds 1 ?_
    rw [rounds_succ]
    go_wp2_with fail
    go_ret
    exact ⟨rfl, by repeat (first | with_reducible exact Below.refl _ _ | with_reducible refine Below.alloc ?_ (by first | omega | (simp <;> omega)) _)⟩

theorem sets_out (sp st sz at_ : Int) (A : Option Addr) (n c : Nat) (w : World) (h : at_ < 0 ∨ 1099511627776 < at_) :
    Calls Try.prog 16 #[.agg #[.int .i64 sp, .int .i64 st, .int .i64 sz], .int .i64 at_, .slice A n c] w fun e w' => e = .returned (.slice none 0 0) ∧ Below w.heap.size w w' := by
  by_cases h1 : at_ < 0
  · have d1 : decide (at_ < 0) = true := dec_yes h1
    go_enter Try.func16, Try.ntmps16
    go_wp2_with fail
    go_ret
    exact ⟨rfl, by repeat (first | with_reducible exact Below.refl _ _ | with_reducible refine Below.alloc ?_ (by first | omega | (simp <;> omega)) _)⟩
  · have h2 : 1099511627776 < at_ := by omega
    have d1 : decide (at_ < 0) = false := dec_no h1
    have d2 : decide (1099511627776 < at_) = true := dec_yes h2
    go_enter Try.func16, Try.ntmps16
    go_wp2_with fail
    go_ret
    exact ⟨rfl, by repeat (first | with_reducible exact Below.refl _ _ | with_reducible refine Below.alloc ?_ (by first | omega | (simp <;> omega)) _)⟩
theorem rsets_out (sp st sz at_ : Int) (A : Option Addr) (n c : Nat) (w : World) (h : at_ < 0 ∨ 1099511627776 < at_) :
    Calls Try.prog 18 #[.agg #[.int .i64 sp, .int .i64 st, .int .i64 sz], .int .i64 at_, .slice A n c] w fun e w' => e = .returned (.slice none 0 0) ∧ Below w.heap.size w w' := by
  by_cases h1 : at_ < 0
  · have d1 : decide (at_ < 0) = true := dec_yes h1
    go_enter Try.func18, Try.ntmps18
    go_wp2_with fail
    go_ret
    exact ⟨rfl, by repeat (first | with_reducible exact Below.refl _ _ | with_reducible refine Below.alloc ?_ (by first | omega | (simp <;> omega)) _)⟩
  · have h2 : 1099511627776 < at_ := by omega
    have d1 : decide (at_ < 0) = false := dec_no h1
    have d2 : decide (1099511627776 < at_) = true := dec_yes h2
    go_enter Try.func18, Try.ntmps18
    go_wp2_with fail
    go_ret
    exact ⟨rfl, by repeat (first | with_reducible exact Below.refl _ _ | with_reducible refine Below.alloc ?_ (by first | omega | (simp <;> omega)) _)⟩
end Go.Proofs.Ytidcgbegpmihaaa
