/- ring.put, one theorem a way: what it answers; nothing that was there is written. Conditions: those that each theorem states. -/
import Derived.Test.YtidcgbegpmihaaaRingA
namespace Go.Proofs.Ytidcgbegpmihaaa
open Go.RowKit

def okP (sp st sz s u0 u1 u2 u3 q n : Int) : Bool := rightR sp st sz && okF sz s u0 u1 u2 u3 && decide (1 ≤ q) && decide (q ≤ 1099511627776) && decide (1 ≤ n) && decide (n ≤ 90)
def pk (u0 u1 u2 u3 o : Int) : Int := if o = 0 then u0 else if o = 1 then u1 else if o = 2 then u2 else u3
abbrev Fil := Int × Int × Int × Int × Int
def addU (s u0 u1 u2 u3 o x : Int) : Fil := (s, (if o = 0 then u0 + x else u0), (if o = 1 then u1 + x else u1), (if o = 2 then u2 + x else u2), (if o = 3 then u3 + x else u3))
def putM (sp st sz s u0 u1 u2 u3 q n : Int) : Fil × (Int × Int) × Bool × Bool :=
  if okP sp st sz s u0 u1 u2 u3 q n then
    (if sz < pk u0 u1 u2 u3 (q % sp) + (22 + n) then (addU (s + 1) 0 0 0 0 (q % sp) (22 + n), (s + 1, q % sp), true, true) else (addU s u0 u1 u2 u3 (q % sp) (22 + n), (s, q % sp), false, true))
  else ((0, 0, 0, 0, 0), (0, 0), false, false)

theorem okP_no {sp st sz s u0 u1 u2 u3 q n : Int} (h : okP sp st sz s u0 u1 u2 u3 q n = false) :
    rightR sp st sz = false ∨ (rightR sp st sz = true ∧ okF sz s u0 u1 u2 u3 = false) ∨ (rightR sp st sz = true ∧ okF sz s u0 u1 u2 u3 = true ∧ (q < 1 ∨ (¬ q < 1 ∧ 1099511627776 < q) ∨ (¬ q < 1 ∧ ¬ 1099511627776 < q ∧ n < 1) ∨ (¬ q < 1 ∧ ¬ 1099511627776 < q ∧ ¬ n < 1 ∧ 90 < n))) := by
  unfold okP at h
  cases hr : rightR sp st sz
  · exact .inl rfl
  · cases hf : okF sz s u0 u1 u2 u3
    · exact .inr (.inl ⟨rfl, rfl⟩)
    · refine .inr (.inr ⟨rfl, rfl, ?_⟩)
      simp [hr, hf] at h
      omega

theorem okP_yes {sp st sz s u0 u1 u2 u3 q n : Int} (h : okP sp st sz s u0 u1 u2 u3 q n = true) :
    (rightR sp st sz = true ∧ okF sz s u0 u1 u2 u3 = true) ∧ (1 ≤ sp ∧ sp ≤ 4) ∧ (512 ≤ sz ∧ sz ≤ 4096) ∧ (0 ≤ u0 ∧ u0 ≤ sz) ∧ (0 ≤ u1 ∧ u1 ≤ sz) ∧ (0 ≤ u2 ∧ u2 ≤ sz) ∧ (0 ≤ u3 ∧ u3 ≤ sz) ∧ (0 ≤ s ∧ s < 1073741824) ∧ (1 ≤ q ∧ q ≤ 1099511627776) ∧ (1 ≤ n ∧ n ≤ 90) := by
  simp only [okP, Bool.and_eq_true, decide_eq_true_eq] at h
  obtain ⟨⟨⟨⟨⟨hr, hf⟩, a⟩, b⟩, c⟩, d⟩ := h
  have hr' := rightR_yes hr
  have hf' := hf
  simp only [okF, okU, Bool.and_eq_true, decide_eq_true_eq] at hf'
  refine ⟨⟨hr, hf⟩, ?_⟩
  omega

set_option maxHeartbeats 1000000 in
theorem put_no1 (sp st sz s u0 u1 u2 u3 q n : Int) (w : World) (HR : Hid (rightR sp st sz = false)) :
    Calls Try.prog 21 #[.agg #[.int .i64 sp, .int .i64 st, .int .i64 sz], .agg #[.int .i64 s, .int .i64 u0, .int .i64 u1, .int .i64 u2, .int .i64 u3], .int .i64 q, .int .i64 n] w fun e w' =>
      e = .returned (.tuple #[.agg #[.int .i64 0, .int .i64 0, .int .i64 0, .int .i64 0, .int .i64 0], .agg #[.int .i64 0, .int .i64 0], .bool false, .bool false]) ∧ Below w.heap.size w w' := by
  go_enter Try.func21, Try.ntmps21
  go_wp2_with fail
  refine (right_any _ _ _ _).mono ?_
  rintro e w1 ⟨rfl, rfl⟩
  rw [HR.out]
  go_wp2_with fail
  go_region
  go_wp2_with fail
  exact bodyPost_ret (v := .tuple #[.agg #[.int .i64 0, .int .i64 0, .int .i64 0, .int .i64 0, .int .i64 0], .agg #[.int .i64 0, .int .i64 0], .bool false, .bool false]) (by simp [results, Try.results21, go_sem]) rfl ⟨rfl, by repeat (first | with_reducible exact Below.refl _ _ | with_reducible refine Below.drew ?_ | with_reducible refine below_drewN ?_ _ | with_reducible refine Below.setCell ?_ (by simp <;> omega) _ | with_reducible refine Below.alloc ?_ (by simp <;> omega) _)⟩
set_option maxHeartbeats 1000000 in
theorem put_no2 (sp st sz s u0 u1 u2 u3 q n : Int) (w : World) (HR : Hid (rightR sp st sz = true)) (HF : Hid (okF sz s u0 u1 u2 u3 = false)) :
    Calls Try.prog 21 #[.agg #[.int .i64 sp, .int .i64 st, .int .i64 sz], .agg #[.int .i64 s, .int .i64 u0, .int .i64 u1, .int .i64 u2, .int .i64 u3], .int .i64 q, .int .i64 n] w fun e w' =>
      e = .returned (.tuple #[.agg #[.int .i64 0, .int .i64 0, .int .i64 0, .int .i64 0, .int .i64 0], .agg #[.int .i64 0, .int .i64 0], .bool false, .bool false]) ∧ Below w.heap.size w w' := by
  go_enter Try.func21, Try.ntmps21
  go_wp2_with fail
  refine (right_any _ _ _ _).mono ?_
  rintro e w1 ⟨rfl, rfl⟩
  rw [HR.out]
  go_wp2_with fail
  refine (fill_any _ _ _ _ _ _ _ _ _).mono ?_
  rintro e w1 ⟨rfl, rfl⟩
  rw [HF.out]
  go_wp2_with fail
  go_region
  go_wp2_with fail
  exact bodyPost_ret (v := .tuple #[.agg #[.int .i64 0, .int .i64 0, .int .i64 0, .int .i64 0, .int .i64 0], .agg #[.int .i64 0, .int .i64 0], .bool false, .bool false]) (by simp [results, Try.results21, go_sem]) rfl ⟨rfl, by repeat (first | with_reducible exact Below.refl _ _ | with_reducible refine Below.drew ?_ | with_reducible refine below_drewN ?_ _ | with_reducible refine Below.setCell ?_ (by simp <;> omega) _ | with_reducible refine Below.alloc ?_ (by simp <;> omega) _)⟩
set_option maxHeartbeats 1000000 in
theorem put_no3 (sp st sz s u0 u1 u2 u3 q n : Int) (w : World) (HR : Hid (rightR sp st sz = true)) (HF : Hid (okF sz s u0 u1 u2 u3 = true)) (g0 : decide (q < 1) = true) :
    Calls Try.prog 21 #[.agg #[.int .i64 sp, .int .i64 st, .int .i64 sz], .agg #[.int .i64 s, .int .i64 u0, .int .i64 u1, .int .i64 u2, .int .i64 u3], .int .i64 q, .int .i64 n] w fun e w' =>
      e = .returned (.tuple #[.agg #[.int .i64 0, .int .i64 0, .int .i64 0, .int .i64 0, .int .i64 0], .agg #[.int .i64 0, .int .i64 0], .bool false, .bool false]) ∧ Below w.heap.size w w' := by
  go_enter Try.func21, Try.ntmps21
  go_wp2_with fail
  refine (right_any _ _ _ _).mono ?_
  rintro e w1 ⟨rfl, rfl⟩
  rw [HR.out]
  go_wp2_with fail
  refine (fill_any _ _ _ _ _ _ _ _ _).mono ?_
  rintro e w1 ⟨rfl, rfl⟩
  rw [HF.out]
  go_wp2_with fail
  go_region
  go_wp2_with fail
  exact bodyPost_ret (v := .tuple #[.agg #[.int .i64 0, .int .i64 0, .int .i64 0, .int .i64 0, .int .i64 0], .agg #[.int .i64 0, .int .i64 0], .bool false, .bool false]) (by simp [results, Try.results21, go_sem]) rfl ⟨rfl, by repeat (first | with_reducible exact Below.refl _ _ | with_reducible refine Below.drew ?_ | with_reducible refine below_drewN ?_ _ | with_reducible refine Below.setCell ?_ (by simp <;> omega) _ | with_reducible refine Below.alloc ?_ (by simp <;> omega) _)⟩
set_option maxHeartbeats 1000000 in
theorem put_no4 (sp st sz s u0 u1 u2 u3 q n : Int) (w : World) (HR : Hid (rightR sp st sz = true)) (HF : Hid (okF sz s u0 u1 u2 u3 = true)) (g0 : decide (q < 1) = false) (g1 : decide (1099511627776 < q) = true) :
    Calls Try.prog 21 #[.agg #[.int .i64 sp, .int .i64 st, .int .i64 sz], .agg #[.int .i64 s, .int .i64 u0, .int .i64 u1, .int .i64 u2, .int .i64 u3], .int .i64 q, .int .i64 n] w fun e w' =>
      e = .returned (.tuple #[.agg #[.int .i64 0, .int .i64 0, .int .i64 0, .int .i64 0, .int .i64 0], .agg #[.int .i64 0, .int .i64 0], .bool false, .bool false]) ∧ Below w.heap.size w w' := by
  go_enter Try.func21, Try.ntmps21
  go_wp2_with fail
  refine (right_any _ _ _ _).mono ?_
  rintro e w1 ⟨rfl, rfl⟩
  rw [HR.out]
  go_wp2_with fail
  refine (fill_any _ _ _ _ _ _ _ _ _).mono ?_
  rintro e w1 ⟨rfl, rfl⟩
  rw [HF.out]
  go_wp2_with fail
  go_region
  go_wp2_with fail
  exact bodyPost_ret (v := .tuple #[.agg #[.int .i64 0, .int .i64 0, .int .i64 0, .int .i64 0, .int .i64 0], .agg #[.int .i64 0, .int .i64 0], .bool false, .bool false]) (by simp [results, Try.results21, go_sem]) rfl ⟨rfl, by repeat (first | with_reducible exact Below.refl _ _ | with_reducible refine Below.drew ?_ | with_reducible refine below_drewN ?_ _ | with_reducible refine Below.setCell ?_ (by simp <;> omega) _ | with_reducible refine Below.alloc ?_ (by simp <;> omega) _)⟩
set_option maxHeartbeats 1000000 in
theorem put_no5 (sp st sz s u0 u1 u2 u3 q n : Int) (w : World) (HR : Hid (rightR sp st sz = true)) (HF : Hid (okF sz s u0 u1 u2 u3 = true)) (g0 : decide (q < 1) = false) (g1 : decide (1099511627776 < q) = false) (g2 : decide (n < 1) = true) :
    Calls Try.prog 21 #[.agg #[.int .i64 sp, .int .i64 st, .int .i64 sz], .agg #[.int .i64 s, .int .i64 u0, .int .i64 u1, .int .i64 u2, .int .i64 u3], .int .i64 q, .int .i64 n] w fun e w' =>
      e = .returned (.tuple #[.agg #[.int .i64 0, .int .i64 0, .int .i64 0, .int .i64 0, .int .i64 0], .agg #[.int .i64 0, .int .i64 0], .bool false, .bool false]) ∧ Below w.heap.size w w' := by
  go_enter Try.func21, Try.ntmps21
  go_wp2_with fail
  refine (right_any _ _ _ _).mono ?_
  rintro e w1 ⟨rfl, rfl⟩
  rw [HR.out]
  go_wp2_with fail
  refine (fill_any _ _ _ _ _ _ _ _ _).mono ?_
  rintro e w1 ⟨rfl, rfl⟩
  rw [HF.out]
  go_wp2_with fail
  go_region
  go_wp2_with fail
  exact bodyPost_ret (v := .tuple #[.agg #[.int .i64 0, .int .i64 0, .int .i64 0, .int .i64 0, .int .i64 0], .agg #[.int .i64 0, .int .i64 0], .bool false, .bool false]) (by simp [results, Try.results21, go_sem]) rfl ⟨rfl, by repeat (first | with_reducible exact Below.refl _ _ | with_reducible refine Below.drew ?_ | with_reducible refine below_drewN ?_ _ | with_reducible refine Below.setCell ?_ (by simp <;> omega) _ | with_reducible refine Below.alloc ?_ (by simp <;> omega) _)⟩
set_option maxHeartbeats 1000000 in
theorem put_no6 (sp st sz s u0 u1 u2 u3 q n : Int) (w : World) (HR : Hid (rightR sp st sz = true)) (HF : Hid (okF sz s u0 u1 u2 u3 = true)) (g0 : decide (q < 1) = false) (g1 : decide (1099511627776 < q) = false) (g2 : decide (n < 1) = false) (g3 : decide (90 < n) = true) :
    Calls Try.prog 21 #[.agg #[.int .i64 sp, .int .i64 st, .int .i64 sz], .agg #[.int .i64 s, .int .i64 u0, .int .i64 u1, .int .i64 u2, .int .i64 u3], .int .i64 q, .int .i64 n] w fun e w' =>
      e = .returned (.tuple #[.agg #[.int .i64 0, .int .i64 0, .int .i64 0, .int .i64 0, .int .i64 0], .agg #[.int .i64 0, .int .i64 0], .bool false, .bool false]) ∧ Below w.heap.size w w' := by
  go_enter Try.func21, Try.ntmps21
  go_wp2_with fail
  refine (right_any _ _ _ _).mono ?_
  rintro e w1 ⟨rfl, rfl⟩
  rw [HR.out]
  go_wp2_with fail
  refine (fill_any _ _ _ _ _ _ _ _ _).mono ?_
  rintro e w1 ⟨rfl, rfl⟩
  rw [HF.out]
  go_wp2_with fail
  go_region
  go_wp2_with fail
  exact bodyPost_ret (v := .tuple #[.agg #[.int .i64 0, .int .i64 0, .int .i64 0, .int .i64 0, .int .i64 0], .agg #[.int .i64 0, .int .i64 0], .bool false, .bool false]) (by simp [results, Try.results21, go_sem]) rfl ⟨rfl, by repeat (first | with_reducible exact Below.refl _ _ | with_reducible refine Below.drew ?_ | with_reducible refine below_drewN ?_ _ | with_reducible refine Below.setCell ?_ (by simp <;> omega) _ | with_reducible refine Below.alloc ?_ (by simp <;> omega) _)⟩
set_option maxHeartbeats 1000000 in
theorem put_fit0 (sp st sz s u0 u1 u2 u3 q n : Int) (w : World) (h : okP sp st sz s u0 u1 u2 u3 q n = true) (hq : q % sp = 0) (hg : ¬ sz < u0 + (22 + n)) :
    Calls Try.prog 21 #[.agg #[.int .i64 sp, .int .i64 st, .int .i64 sz], .agg #[.int .i64 s, .int .i64 u0, .int .i64 u1, .int .i64 u2, .int .i64 u3], .int .i64 q, .int .i64 n] w fun e w' =>
      e = .returned (.tuple #[.agg #[.int .i64 s, .int .i64 (u0 + (22 + n)), .int .i64 u1, .int .i64 u2, .int .i64 u3], .agg #[.int .i64 s, .int .i64 0], .bool false, .bool true]) ∧ Below w.heap.size w w' := by
  obtain ⟨⟨hr, hf⟩, ⟨p1, p2⟩, ⟨z1, z2⟩, ⟨a1, a2⟩, ⟨b1, b2⟩, ⟨c1, c2⟩, ⟨d1, d2⟩, ⟨s1, s2⟩, ⟨q1, q2⟩, ⟨n1, n2⟩⟩ := okP_yes h
  have HR := Lib.hid hr
  have HF := Lib.hid hf
  clear hr hf h
  have q3 : decide (q < 1) = false := by simp; omega
  have q4 : decide (1099511627776 < q) = false := by simp; omega
  have n3 : decide (n < 1) = false := by simp; omega
  have n4 : decide (90 < n) = false := by simp; omega
  go_enter Try.func21, Try.ntmps21
  go_wp2_with fail
  refine (right_any _ _ _ _).mono ?_
  rintro e w1 ⟨rfl, rfl⟩
  rw [HR.out]
  go_wp2_with fail
  refine (fill_any _ _ _ _ _ _ _ _ _).mono ?_
  rintro e w1 ⟨rfl, rfl⟩
  rw [HF.out]
  go_wp2_with fail
  go_quiet ((go_at_call 23; exact Calls.quiet_of_same ((size_any _ n1 n2 _).mono fun e w' h => ⟨h.1, h.2.symm⟩)))
  go_wp2_with fail
  go_quiet (fail)
  go_wp2_with fail
  go_region
  go_wp2_with fail
  exact bodyPost_ret (v := .tuple #[.agg #[.int .i64 s, .int .i64 (u0 + (22 + n)), .int .i64 u1, .int .i64 u2, .int .i64 u3], .agg #[.int .i64 s, .int .i64 0], .bool false, .bool true]) (by simp [results, Try.results21, go_sem]) rfl ⟨rfl, by repeat (first | with_reducible exact Below.refl _ _ | with_reducible refine Below.drew ?_ | with_reducible refine below_drewN ?_ _ | with_reducible refine Below.setCell ?_ (by simp <;> omega) _ | with_reducible refine Below.alloc ?_ (by simp <;> omega) _)⟩
set_option maxHeartbeats 1000000 in
theorem put_next0 (sp st sz s u0 u1 u2 u3 q n : Int) (w : World) (h : okP sp st sz s u0 u1 u2 u3 q n = true) (hq : q % sp = 0) (hg : sz < u0 + (22 + n)) :
    Calls Try.prog 21 #[.agg #[.int .i64 sp, .int .i64 st, .int .i64 sz], .agg #[.int .i64 s, .int .i64 u0, .int .i64 u1, .int .i64 u2, .int .i64 u3], .int .i64 q, .int .i64 n] w fun e w' =>
      e = .returned (.tuple #[.agg #[.int .i64 (s + 1), .int .i64 (22 + n), .int .i64 0, .int .i64 0, .int .i64 0], .agg #[.int .i64 (s + 1), .int .i64 0], .bool true, .bool true]) ∧ Below w.heap.size w w' := by
  obtain ⟨⟨hr, hf⟩, ⟨p1, p2⟩, ⟨z1, z2⟩, ⟨a1, a2⟩, ⟨b1, b2⟩, ⟨c1, c2⟩, ⟨d1, d2⟩, ⟨s1, s2⟩, ⟨q1, q2⟩, ⟨n1, n2⟩⟩ := okP_yes h
  have HR := Lib.hid hr
  have HF := Lib.hid hf
  clear hr hf h
  have q3 : decide (q < 1) = false := by simp; omega
  have q4 : decide (1099511627776 < q) = false := by simp; omega
  have n3 : decide (n < 1) = false := by simp; omega
  have n4 : decide (90 < n) = false := by simp; omega
  go_enter Try.func21, Try.ntmps21
  go_wp2_with fail
  refine (right_any _ _ _ _).mono ?_
  rintro e w1 ⟨rfl, rfl⟩
  rw [HR.out]
  go_wp2_with fail
  refine (fill_any _ _ _ _ _ _ _ _ _).mono ?_
  rintro e w1 ⟨rfl, rfl⟩
  rw [HF.out]
  go_wp2_with fail
  go_quiet ((go_at_call 23; exact Calls.quiet_of_same ((size_any _ n1 n2 _).mono fun e w' h => ⟨h.1, h.2.symm⟩)))
  go_wp2_with fail
  go_quiet (fail)
  go_wp2_with fail
  go_region
  go_wp2_with fail
  exact bodyPost_ret (v := .tuple #[.agg #[.int .i64 (s + 1), .int .i64 (22 + n), .int .i64 0, .int .i64 0, .int .i64 0], .agg #[.int .i64 (s + 1), .int .i64 0], .bool true, .bool true]) (by simp [results, Try.results21, go_sem]) rfl ⟨rfl, by repeat (first | with_reducible exact Below.refl _ _ | with_reducible refine Below.drew ?_ | with_reducible refine below_drewN ?_ _ | with_reducible refine Below.setCell ?_ (by simp <;> omega) _ | with_reducible refine Below.alloc ?_ (by simp <;> omega) _)⟩
set_option maxHeartbeats 1000000 in
theorem put_fit1 (sp st sz s u0 u1 u2 u3 q n : Int) (w : World) (h : okP sp st sz s u0 u1 u2 u3 q n = true) (hq : q % sp = 1) (hg : ¬ sz < u1 + (22 + n)) :
    Calls Try.prog 21 #[.agg #[.int .i64 sp, .int .i64 st, .int .i64 sz], .agg #[.int .i64 s, .int .i64 u0, .int .i64 u1, .int .i64 u2, .int .i64 u3], .int .i64 q, .int .i64 n] w fun e w' =>
      e = .returned (.tuple #[.agg #[.int .i64 s, .int .i64 u0, .int .i64 (u1 + (22 + n)), .int .i64 u2, .int .i64 u3], .agg #[.int .i64 s, .int .i64 1], .bool false, .bool true]) ∧ Below w.heap.size w w' := by
  obtain ⟨⟨hr, hf⟩, ⟨p1, p2⟩, ⟨z1, z2⟩, ⟨a1, a2⟩, ⟨b1, b2⟩, ⟨c1, c2⟩, ⟨d1, d2⟩, ⟨s1, s2⟩, ⟨q1, q2⟩, ⟨n1, n2⟩⟩ := okP_yes h
  have HR := Lib.hid hr
  have HF := Lib.hid hf
  clear hr hf h
  have q3 : decide (q < 1) = false := by simp; omega
  have q4 : decide (1099511627776 < q) = false := by simp; omega
  have n3 : decide (n < 1) = false := by simp; omega
  have n4 : decide (90 < n) = false := by simp; omega
  go_enter Try.func21, Try.ntmps21
  go_wp2_with fail
  refine (right_any _ _ _ _).mono ?_
  rintro e w1 ⟨rfl, rfl⟩
  rw [HR.out]
  go_wp2_with fail
  refine (fill_any _ _ _ _ _ _ _ _ _).mono ?_
  rintro e w1 ⟨rfl, rfl⟩
  rw [HF.out]
  go_wp2_with fail
  go_quiet ((go_at_call 23; exact Calls.quiet_of_same ((size_any _ n1 n2 _).mono fun e w' h => ⟨h.1, h.2.symm⟩)))
  go_wp2_with fail
  go_quiet (fail)
  go_wp2_with fail
  go_region
  go_wp2_with fail
  exact bodyPost_ret (v := .tuple #[.agg #[.int .i64 s, .int .i64 u0, .int .i64 (u1 + (22 + n)), .int .i64 u2, .int .i64 u3], .agg #[.int .i64 s, .int .i64 1], .bool false, .bool true]) (by simp [results, Try.results21, go_sem]) rfl ⟨rfl, by repeat (first | with_reducible exact Below.refl _ _ | with_reducible refine Below.drew ?_ | with_reducible refine below_drewN ?_ _ | with_reducible refine Below.setCell ?_ (by simp <;> omega) _ | with_reducible refine Below.alloc ?_ (by simp <;> omega) _)⟩
set_option maxHeartbeats 1000000 in
theorem put_next1 (sp st sz s u0 u1 u2 u3 q n : Int) (w : World) (h : okP sp st sz s u0 u1 u2 u3 q n = true) (hq : q % sp = 1) (hg : sz < u1 + (22 + n)) :
    Calls Try.prog 21 #[.agg #[.int .i64 sp, .int .i64 st, .int .i64 sz], .agg #[.int .i64 s, .int .i64 u0, .int .i64 u1, .int .i64 u2, .int .i64 u3], .int .i64 q, .int .i64 n] w fun e w' =>
      e = .returned (.tuple #[.agg #[.int .i64 (s + 1), .int .i64 0, .int .i64 (22 + n), .int .i64 0, .int .i64 0], .agg #[.int .i64 (s + 1), .int .i64 1], .bool true, .bool true]) ∧ Below w.heap.size w w' := by
  obtain ⟨⟨hr, hf⟩, ⟨p1, p2⟩, ⟨z1, z2⟩, ⟨a1, a2⟩, ⟨b1, b2⟩, ⟨c1, c2⟩, ⟨d1, d2⟩, ⟨s1, s2⟩, ⟨q1, q2⟩, ⟨n1, n2⟩⟩ := okP_yes h
  have HR := Lib.hid hr
  have HF := Lib.hid hf
  clear hr hf h
  have q3 : decide (q < 1) = false := by simp; omega
  have q4 : decide (1099511627776 < q) = false := by simp; omega
  have n3 : decide (n < 1) = false := by simp; omega
  have n4 : decide (90 < n) = false := by simp; omega
  go_enter Try.func21, Try.ntmps21
  go_wp2_with fail
  refine (right_any _ _ _ _).mono ?_
  rintro e w1 ⟨rfl, rfl⟩
  rw [HR.out]
  go_wp2_with fail
  refine (fill_any _ _ _ _ _ _ _ _ _).mono ?_
  rintro e w1 ⟨rfl, rfl⟩
  rw [HF.out]
  go_wp2_with fail
  go_quiet ((go_at_call 23; exact Calls.quiet_of_same ((size_any _ n1 n2 _).mono fun e w' h => ⟨h.1, h.2.symm⟩)))
  go_wp2_with fail
  go_quiet (fail)
  go_wp2_with fail
  go_region
  go_wp2_with fail
  exact bodyPost_ret (v := .tuple #[.agg #[.int .i64 (s + 1), .int .i64 0, .int .i64 (22 + n), .int .i64 0, .int .i64 0], .agg #[.int .i64 (s + 1), .int .i64 1], .bool true, .bool true]) (by simp [results, Try.results21, go_sem]) rfl ⟨rfl, by repeat (first | with_reducible exact Below.refl _ _ | with_reducible refine Below.drew ?_ | with_reducible refine below_drewN ?_ _ | with_reducible refine Below.setCell ?_ (by simp <;> omega) _ | with_reducible refine Below.alloc ?_ (by simp <;> omega) _)⟩
set_option maxHeartbeats 1000000 in
theorem put_fit2 (sp st sz s u0 u1 u2 u3 q n : Int) (w : World) (h : okP sp st sz s u0 u1 u2 u3 q n = true) (hq : q % sp = 2) (hg : ¬ sz < u2 + (22 + n)) :
    Calls Try.prog 21 #[.agg #[.int .i64 sp, .int .i64 st, .int .i64 sz], .agg #[.int .i64 s, .int .i64 u0, .int .i64 u1, .int .i64 u2, .int .i64 u3], .int .i64 q, .int .i64 n] w fun e w' =>
      e = .returned (.tuple #[.agg #[.int .i64 s, .int .i64 u0, .int .i64 u1, .int .i64 (u2 + (22 + n)), .int .i64 u3], .agg #[.int .i64 s, .int .i64 2], .bool false, .bool true]) ∧ Below w.heap.size w w' := by
  obtain ⟨⟨hr, hf⟩, ⟨p1, p2⟩, ⟨z1, z2⟩, ⟨a1, a2⟩, ⟨b1, b2⟩, ⟨c1, c2⟩, ⟨d1, d2⟩, ⟨s1, s2⟩, ⟨q1, q2⟩, ⟨n1, n2⟩⟩ := okP_yes h
  have HR := Lib.hid hr
  have HF := Lib.hid hf
  clear hr hf h
  have q3 : decide (q < 1) = false := by simp; omega
  have q4 : decide (1099511627776 < q) = false := by simp; omega
  have n3 : decide (n < 1) = false := by simp; omega
  have n4 : decide (90 < n) = false := by simp; omega
  go_enter Try.func21, Try.ntmps21
  go_wp2_with fail
  refine (right_any _ _ _ _).mono ?_
  rintro e w1 ⟨rfl, rfl⟩
  rw [HR.out]
  go_wp2_with fail
  refine (fill_any _ _ _ _ _ _ _ _ _).mono ?_
  rintro e w1 ⟨rfl, rfl⟩
  rw [HF.out]
  go_wp2_with fail
  go_quiet ((go_at_call 23; exact Calls.quiet_of_same ((size_any _ n1 n2 _).mono fun e w' h => ⟨h.1, h.2.symm⟩)))
  go_wp2_with fail
  go_quiet (fail)
  go_wp2_with fail
  go_region
  go_wp2_with fail
  exact bodyPost_ret (v := .tuple #[.agg #[.int .i64 s, .int .i64 u0, .int .i64 u1, .int .i64 (u2 + (22 + n)), .int .i64 u3], .agg #[.int .i64 s, .int .i64 2], .bool false, .bool true]) (by simp [results, Try.results21, go_sem]) rfl ⟨rfl, by repeat (first | with_reducible exact Below.refl _ _ | with_reducible refine Below.drew ?_ | with_reducible refine below_drewN ?_ _ | with_reducible refine Below.setCell ?_ (by simp <;> omega) _ | with_reducible refine Below.alloc ?_ (by simp <;> omega) _)⟩
set_option maxHeartbeats 1000000 in
theorem put_next2 (sp st sz s u0 u1 u2 u3 q n : Int) (w : World) (h : okP sp st sz s u0 u1 u2 u3 q n = true) (hq : q % sp = 2) (hg : sz < u2 + (22 + n)) :
    Calls Try.prog 21 #[.agg #[.int .i64 sp, .int .i64 st, .int .i64 sz], .agg #[.int .i64 s, .int .i64 u0, .int .i64 u1, .int .i64 u2, .int .i64 u3], .int .i64 q, .int .i64 n] w fun e w' =>
      e = .returned (.tuple #[.agg #[.int .i64 (s + 1), .int .i64 0, .int .i64 0, .int .i64 (22 + n), .int .i64 0], .agg #[.int .i64 (s + 1), .int .i64 2], .bool true, .bool true]) ∧ Below w.heap.size w w' := by
  obtain ⟨⟨hr, hf⟩, ⟨p1, p2⟩, ⟨z1, z2⟩, ⟨a1, a2⟩, ⟨b1, b2⟩, ⟨c1, c2⟩, ⟨d1, d2⟩, ⟨s1, s2⟩, ⟨q1, q2⟩, ⟨n1, n2⟩⟩ := okP_yes h
  have HR := Lib.hid hr
  have HF := Lib.hid hf
  clear hr hf h
  have q3 : decide (q < 1) = false := by simp; omega
  have q4 : decide (1099511627776 < q) = false := by simp; omega
  have n3 : decide (n < 1) = false := by simp; omega
  have n4 : decide (90 < n) = false := by simp; omega
  go_enter Try.func21, Try.ntmps21
  go_wp2_with fail
  refine (right_any _ _ _ _).mono ?_
  rintro e w1 ⟨rfl, rfl⟩
  rw [HR.out]
  go_wp2_with fail
  refine (fill_any _ _ _ _ _ _ _ _ _).mono ?_
  rintro e w1 ⟨rfl, rfl⟩
  rw [HF.out]
  go_wp2_with fail
  go_quiet ((go_at_call 23; exact Calls.quiet_of_same ((size_any _ n1 n2 _).mono fun e w' h => ⟨h.1, h.2.symm⟩)))
  go_wp2_with fail
  go_quiet (fail)
  go_wp2_with fail
  go_region
  go_wp2_with fail
  exact bodyPost_ret (v := .tuple #[.agg #[.int .i64 (s + 1), .int .i64 0, .int .i64 0, .int .i64 (22 + n), .int .i64 0], .agg #[.int .i64 (s + 1), .int .i64 2], .bool true, .bool true]) (by simp [results, Try.results21, go_sem]) rfl ⟨rfl, by repeat (first | with_reducible exact Below.refl _ _ | with_reducible refine Below.drew ?_ | with_reducible refine below_drewN ?_ _ | with_reducible refine Below.setCell ?_ (by simp <;> omega) _ | with_reducible refine Below.alloc ?_ (by simp <;> omega) _)⟩
set_option maxHeartbeats 1000000 in
theorem put_fit3 (sp st sz s u0 u1 u2 u3 q n : Int) (w : World) (h : okP sp st sz s u0 u1 u2 u3 q n = true) (hq : q % sp = 3) (hg : ¬ sz < u3 + (22 + n)) :
    Calls Try.prog 21 #[.agg #[.int .i64 sp, .int .i64 st, .int .i64 sz], .agg #[.int .i64 s, .int .i64 u0, .int .i64 u1, .int .i64 u2, .int .i64 u3], .int .i64 q, .int .i64 n] w fun e w' =>
      e = .returned (.tuple #[.agg #[.int .i64 s, .int .i64 u0, .int .i64 u1, .int .i64 u2, .int .i64 (u3 + (22 + n))], .agg #[.int .i64 s, .int .i64 3], .bool false, .bool true]) ∧ Below w.heap.size w w' := by
  obtain ⟨⟨hr, hf⟩, ⟨p1, p2⟩, ⟨z1, z2⟩, ⟨a1, a2⟩, ⟨b1, b2⟩, ⟨c1, c2⟩, ⟨d1, d2⟩, ⟨s1, s2⟩, ⟨q1, q2⟩, ⟨n1, n2⟩⟩ := okP_yes h
  have HR := Lib.hid hr
  have HF := Lib.hid hf
  clear hr hf h
  have q3 : decide (q < 1) = false := by simp; omega
  have q4 : decide (1099511627776 < q) = false := by simp; omega
  have n3 : decide (n < 1) = false := by simp; omega
  have n4 : decide (90 < n) = false := by simp; omega
  go_enter Try.func21, Try.ntmps21
  go_wp2_with fail
  refine (right_any _ _ _ _).mono ?_
  rintro e w1 ⟨rfl, rfl⟩
  rw [HR.out]
  go_wp2_with fail
  refine (fill_any _ _ _ _ _ _ _ _ _).mono ?_
  rintro e w1 ⟨rfl, rfl⟩
  rw [HF.out]
  go_wp2_with fail
  go_quiet ((go_at_call 23; exact Calls.quiet_of_same ((size_any _ n1 n2 _).mono fun e w' h => ⟨h.1, h.2.symm⟩)))
  go_wp2_with fail
  go_quiet (fail)
  go_wp2_with fail
  go_region
  go_wp2_with fail
  exact bodyPost_ret (v := .tuple #[.agg #[.int .i64 s, .int .i64 u0, .int .i64 u1, .int .i64 u2, .int .i64 (u3 + (22 + n))], .agg #[.int .i64 s, .int .i64 3], .bool false, .bool true]) (by simp [results, Try.results21, go_sem]) rfl ⟨rfl, by repeat (first | with_reducible exact Below.refl _ _ | with_reducible refine Below.drew ?_ | with_reducible refine below_drewN ?_ _ | with_reducible refine Below.setCell ?_ (by simp <;> omega) _ | with_reducible refine Below.alloc ?_ (by simp <;> omega) _)⟩
set_option maxHeartbeats 1000000 in
theorem put_next3 (sp st sz s u0 u1 u2 u3 q n : Int) (w : World) (h : okP sp st sz s u0 u1 u2 u3 q n = true) (hq : q % sp = 3) (hg : sz < u3 + (22 + n)) :
    Calls Try.prog 21 #[.agg #[.int .i64 sp, .int .i64 st, .int .i64 sz], .agg #[.int .i64 s, .int .i64 u0, .int .i64 u1, .int .i64 u2, .int .i64 u3], .int .i64 q, .int .i64 n] w fun e w' =>
      e = .returned (.tuple #[.agg #[.int .i64 (s + 1), .int .i64 0, .int .i64 0, .int .i64 0, .int .i64 (22 + n)], .agg #[.int .i64 (s + 1), .int .i64 3], .bool true, .bool true]) ∧ Below w.heap.size w w' := by
  obtain ⟨⟨hr, hf⟩, ⟨p1, p2⟩, ⟨z1, z2⟩, ⟨a1, a2⟩, ⟨b1, b2⟩, ⟨c1, c2⟩, ⟨d1, d2⟩, ⟨s1, s2⟩, ⟨q1, q2⟩, ⟨n1, n2⟩⟩ := okP_yes h
  have HR := Lib.hid hr
  have HF := Lib.hid hf
  clear hr hf h
  have q3 : decide (q < 1) = false := by simp; omega
  have q4 : decide (1099511627776 < q) = false := by simp; omega
  have n3 : decide (n < 1) = false := by simp; omega
  have n4 : decide (90 < n) = false := by simp; omega
  go_enter Try.func21, Try.ntmps21
  go_wp2_with fail
  refine (right_any _ _ _ _).mono ?_
  rintro e w1 ⟨rfl, rfl⟩
  rw [HR.out]
  go_wp2_with fail
  refine (fill_any _ _ _ _ _ _ _ _ _).mono ?_
  rintro e w1 ⟨rfl, rfl⟩
  rw [HF.out]
  go_wp2_with fail
  go_quiet ((go_at_call 23; exact Calls.quiet_of_same ((size_any _ n1 n2 _).mono fun e w' h => ⟨h.1, h.2.symm⟩)))
  go_wp2_with fail
  go_quiet (fail)
  go_wp2_with fail
  go_region
  go_wp2_with fail
  exact bodyPost_ret (v := .tuple #[.agg #[.int .i64 (s + 1), .int .i64 0, .int .i64 0, .int .i64 0, .int .i64 (22 + n)], .agg #[.int .i64 (s + 1), .int .i64 3], .bool true, .bool true]) (by simp [results, Try.results21, go_sem]) rfl ⟨rfl, by repeat (first | with_reducible exact Below.refl _ _ | with_reducible refine Below.drew ?_ | with_reducible refine below_drewN ?_ _ | with_reducible refine Below.setCell ?_ (by simp <;> omega) _ | with_reducible refine Below.alloc ?_ (by simp <;> omega) _)⟩
end Go.Proofs.Ytidcgbegpmihaaa
