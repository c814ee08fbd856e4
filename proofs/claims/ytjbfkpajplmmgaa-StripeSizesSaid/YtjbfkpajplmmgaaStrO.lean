/- Back, and the reference's: the walks. -/
import Derived.Test.YtjbfkpajplmmgaaStrN
namespace Go.Proofs.Ytjbfkpajplmmgaa
open Go.RowKit

theorem back_no (o u c obj at_ : Int) (w : World) (h : shapeL o u c = false ∨ obj < 0 ∨ 1048576 < obj ∨ at_ < 0) :
    Calls Try.prog 19 #[.agg #[.int .i64 o, .int .i64 u, .int .i64 c], .int .i64 obj, .int .i64 at_] w fun e w' => e = .returned (.int .i64 0) ∧ Below w.heap.size w w' := by
  cases hs : shapeL o u c
  · have H := Lib.hid hs
    clear h hs
    go_enter Try.func19, Try.ntmps19
    go_wp2_with fail
    refine (shape_any _ _ _ _).mono ?_
    rintro e w1 ⟨rfl, rfl⟩
    rw [H.out]
    go_wp2_with fail
    go_ret
    exact ⟨rfl, by repeat (first | with_reducible exact Below.refl _ _ | with_reducible refine Below.alloc ?_ (by simp <;> omega) _)⟩
  · have H := Lib.hid hs
    have h' : obj < 0 ∨ 1048576 < obj ∨ at_ < 0 := by
      rcases h with h | h
      · rw [hs] at h; cases h
      · exact h
    clear h hs
    by_cases d1 : obj < 0
    · have e1 := dec_yes d1
      clear h'
      go_enter Try.func19, Try.ntmps19
      go_wp2_with fail
      refine (shape_any _ _ _ _).mono ?_
      rintro e w1 ⟨rfl, rfl⟩
      rw [H.out]
      go_wp2_with fail
      go_ret
      exact ⟨rfl, by repeat (first | with_reducible exact Below.refl _ _ | with_reducible refine Below.alloc ?_ (by simp <;> omega) _)⟩
    · have e1 := dec_no d1
      by_cases d2 : 1048576 < obj
      · have e2 := dec_yes d2
        clear h'
        go_enter Try.func19, Try.ntmps19
        go_wp2_with fail
        refine (shape_any _ _ _ _).mono ?_
        rintro e w1 ⟨rfl, rfl⟩
        rw [H.out]
        go_wp2_with fail
        go_ret
        exact ⟨rfl, by repeat (first | with_reducible exact Below.refl _ _ | with_reducible refine Below.alloc ?_ (by simp <;> omega) _)⟩
      · have e2 := dec_no d2
        have e3 : decide (at_ < 0) = true := dec_yes (by omega)
        clear h'
        go_enter Try.func19, Try.ntmps19
        go_wp2_with fail
        refine (shape_any _ _ _ _).mono ?_
        rintro e w1 ⟨rfl, rfl⟩
        rw [H.out]
        go_wp2_with fail
        go_ret
        exact ⟨rfl, by repeat (first | with_reducible exact Below.refl _ _ | with_reducible refine Below.alloc ?_ (by simp <;> omega) _)⟩

theorem rback_no (o u c obj at_ : Int) (w : World) (h : shapeL o u c = false ∨ obj < 0 ∨ 1048576 < obj ∨ at_ < 0) :
    Calls Try.prog 20 #[.agg #[.int .i64 o, .int .i64 u, .int .i64 c], .int .i64 obj, .int .i64 at_] w fun e w' => e = .returned (.int .i64 0) ∧ Below w.heap.size w w' := by
  cases hs : shapeL o u c
  · have H := Lib.hid hs
    clear h hs
    go_enter Try.func20, Try.ntmps20
    go_wp2_with fail
    refine (refShape_any _ _ _ _).mono ?_
    rintro e w1 ⟨rfl, rfl⟩
    rw [H.out]
    go_wp2_with fail
    go_ret
    exact ⟨rfl, by repeat (first | with_reducible exact Below.refl _ _ | with_reducible refine Below.alloc ?_ (by simp <;> omega) _)⟩
  · have H := Lib.hid hs
    have h' : obj < 0 ∨ 1048576 < obj ∨ at_ < 0 := by
      rcases h with h | h
      · rw [hs] at h; cases h
      · exact h
    clear h hs
    by_cases d1 : obj < 0
    · have e1 := dec_yes d1
      clear h'
      go_enter Try.func20, Try.ntmps20
      go_wp2_with fail
      refine (refShape_any _ _ _ _).mono ?_
      rintro e w1 ⟨rfl, rfl⟩
      rw [H.out]
      go_wp2_with fail
      go_ret
      exact ⟨rfl, by repeat (first | with_reducible exact Below.refl _ _ | with_reducible refine Below.alloc ?_ (by simp <;> omega) _)⟩
    · have e1 := dec_no d1
      by_cases d2 : 1048576 < obj
      · have e2 := dec_yes d2
        clear h'
        go_enter Try.func20, Try.ntmps20
        go_wp2_with fail
        refine (refShape_any _ _ _ _).mono ?_
        rintro e w1 ⟨rfl, rfl⟩
        rw [H.out]
        go_wp2_with fail
        go_ret
        exact ⟨rfl, by repeat (first | with_reducible exact Below.refl _ _ | with_reducible refine Below.alloc ?_ (by simp <;> omega) _)⟩
      · have e2 := dec_no d2
        have e3 : decide (at_ < 0) = true := dec_yes (by omega)
        clear h'
        go_enter Try.func20, Try.ntmps20
        go_wp2_with fail
        refine (refShape_any _ _ _ _).mono ?_
        rintro e w1 ⟨rfl, rfl⟩
        rw [H.out]
        go_wp2_with fail
        go_ret
        exact ⟨rfl, by repeat (first | with_reducible exact Below.refl _ _ | with_reducible refine Below.alloc ?_ (by simp <;> omega) _)⟩

theorem back_far (U D C B S : Nat) (a : Int) (w : World) (u2 : 2 ≤ U) (d6 : U + D ≤ 6) (d3 : 3 ≤ U + D) (c1 : 1 ≤ C) (c4 : C ≤ 4) (hB : B ≤ 1048576) (hSe : 2 ^ (U + D) = S) (ha : (S : Int) ≤ a) :
    Calls Try.prog 19 #[.agg #[.int .i64 ((U : Int) + D), .int .i64 U, .int .i64 C], .int .i64 (B : Nat), .int .i64 a] w fun e w' => e = .returned (.int .i64 0) ∧ Below w.heap.size w w' := by
  have H := Lib.hid (shape_of u2 d6 d3 c1 c4)
  obtain ⟨S', hS', s1, s2⟩ := pow_small (U := U + D) (by omega)
  obtain rfl : S' = S := by rw [← hS', hSe]
  have hS := shift_one (u := U + D) (by omega) hSe (by omega)
  obtain ⟨o, ho⟩ : ∃ o : Int, o = (U : Int) + D := ⟨_, rfl⟩
  rw [show ((U + D : Nat) : Int) = (U : Int) + D by push_cast; rfl, ← ho] at hS
  rw [← ho] at H ⊢
  clear ho u2 d6 d3 hSe hS'
  have e1 : decide ((B : Int) < 0) = false := dec_no (by omega)
  have e2 : decide (1048576 < (B : Int)) = false := dec_no (by omega)
  have e3 : decide (a < 0) = false := dec_no (by omega)
  have e4 : decide ((S' : Int) ≤ a) = true := dec_yes ha
  go_enter Try.func19, Try.ntmps19
  go_wp2_with fail
  refine (shape_any _ _ _ _).mono ?_
  rintro e w1 ⟨rfl, rfl⟩
  rw [H.out]
  go_wp2_with fail
  go_ret
  exact ⟨rfl, by repeat (first | with_reducible exact Below.refl _ _ | with_reducible refine Below.alloc ?_ (by simp <;> omega) _)⟩
theorem back_yes (U D C B A S : Nat) (w : World) (u2 : 2 ≤ U) (d6 : U + D ≤ 6) (d3 : 3 ≤ U + D) (c1 : 1 ≤ C) (c4 : C ≤ 4) (hB : B ≤ 1048576) (hSe : 2 ^ (U + D) = S) (ha : A < S) :
    Calls Try.prog 19 #[.agg #[.int .i64 ((U : Int) + D), .int .i64 U, .int .i64 C], .int .i64 (B : Nat), .int .i64 (A : Nat)] w fun e w' => e = .returned (.int .i64 (bk (2 ^ U) (2 ^ D) C B A : Nat)) ∧ Below w.heap.size w w' := by
  have H := Lib.hid (shape_of u2 d6 d3 c1 c4)
  obtain ⟨S', hS', s1, s2⟩ := pow_small (U := U + D) (by omega)
  obtain rfl : S' = S := by rw [← hS', hSe]
  have hbk := fun w => backi_any U D C B A w u2 d6 c1 c4 hB (by omega)
  have hS := shift_one (u := U + D) (by omega) hSe (by omega)
  obtain ⟨o, ho⟩ : ∃ o : Int, o = (U : Int) + D := ⟨_, rfl⟩
  rw [show ((U + D : Nat) : Int) = (U : Int) + D by push_cast; rfl, ← ho] at hS
  rw [← ho] at H hbk ⊢
  clear ho u2 d6 d3 hSe hS'
  have e1 : decide ((B : Int) < 0) = false := dec_no (by omega)
  have e2 : decide (1048576 < (B : Int)) = false := dec_no (by omega)
  have e3 : decide ((A : Int) < 0) = false := dec_no (by omega)
  have e4 : decide ((S' : Int) ≤ (A : Int)) = false := dec_no (by omega)
  go_enter Try.func19, Try.ntmps19
  go_wp2_with fail
  refine (shape_any _ _ _ _).mono ?_
  rintro e w1 ⟨rfl, rfl⟩
  rw [H.out]
  go_wp2_with fail
  refine (hbk _).mono ?_
  rintro e w1 ⟨rfl, hb1⟩
  go_wp2_with fail
  go_ret
  exact ⟨rfl, Below.trans (B := w.heap.size) (a := w) (by repeat (first | with_reducible exact Below.refl _ _ | with_reducible refine Below.alloc ?_ (by simp <;> omega) _)) (hb1.mono (by simp <;> omega))⟩

theorem rback_far (U D C B S : Nat) (a : Int) (w : World) (u2 : 2 ≤ U) (d6 : U + D ≤ 6) (d3 : 3 ≤ U + D) (c1 : 1 ≤ C) (c4 : C ≤ 4) (hB : B ≤ 1048576) (hSe : 2 ^ (U + D) = S) (ha : (S : Int) ≤ a) :
    Calls Try.prog 20 #[.agg #[.int .i64 ((U : Int) + D), .int .i64 U, .int .i64 C], .int .i64 (B : Nat), .int .i64 a] w fun e w' => e = .returned (.int .i64 0) ∧ Below w.heap.size w w' := by
  have H := Lib.hid (shape_of u2 d6 d3 c1 c4)
  have po := fun w => pow_any ((U : Int) + D) (U + D) S (by push_cast; rfl) d6 hSe w
  obtain ⟨o, ho⟩ : ∃ o : Int, o = (U : Int) + D := ⟨_, rfl⟩
  rw [← ho] at H po ⊢
  clear ho u2 d6 d3 hSe
  have e1 : decide ((B : Int) < 0) = false := dec_no (by omega)
  have e2 : decide (1048576 < (B : Int)) = false := dec_no (by omega)
  have e3 : decide (a < 0) = false := dec_no (by omega)
  have e4 : decide ((S : Int) ≤ a) = true := dec_yes ha
  go_enter Try.func20, Try.ntmps20
  go_wp2_with fail
  refine (refShape_any _ _ _ _).mono ?_
  rintro e w1 ⟨rfl, rfl⟩
  rw [H.out]
  go_wp2_with fail
  refine (po _).mono ?_
  rintro e w1 ⟨rfl, rfl⟩
  go_wp2_with fail
  go_ret
  exact ⟨rfl, by repeat (first | with_reducible exact Below.refl _ _ | with_reducible refine Below.alloc ?_ (by simp <;> omega) _)⟩

set_option maxHeartbeats 1000000 in
theorem rback_yes (U D C B A S : Nat) (w : World) (u2 : 2 ≤ U) (d6 : U + D ≤ 6) (d3 : 3 ≤ U + D) (c1 : 1 ≤ C) (c4 : C ≤ 4) (hB : B ≤ 1048576) (hSe : 2 ^ (U + D) = S) (ha : A < S) :
    Calls Try.prog 20 #[.agg #[.int .i64 ((U : Int) + D), .int .i64 U, .int .i64 C], .int .i64 (B : Nat), .int .i64 (A : Nat)] w fun e w' => e = .returned (.int .i64 (bk (2 ^ U) (2 ^ D) C B A : Nat)) ∧ Below w.heap.size w w' := by
  have H := Lib.hid (shape_of u2 d6 d3 c1 c4)
  obtain ⟨P, hP, p1, p2⟩ := pow_small (U := U) (by omega)
  obtain ⟨Q, hQ, q1, q2⟩ := pow_small (U := D) (by omega)
  obtain ⟨S', hS', s1, s2⟩ := pow_small (U := U + D) (by omega)
  obtain rfl : S' = S := by rw [← hS', hSe]
  clear hS'
  have hN' : P * Q = S' := by rw [← hSe, Nat.pow_add, hP, hQ]
  have pu := fun w => (pow_any U U P rfl (by omega) hP w).mono (R' := fun e w' => e = Ending.returned (Value.int IntKind.i64 (P : Int)) ∧ w' = w) fun _ _ h => ⟨h.1, h.2.symm⟩
  have po := fun w => (pow_any ((U : Int) + D) (U + D) S' (by push_cast; rfl) d6 hSe w).mono (R' := fun e w' => e = Ending.returned (Value.int IntKind.i64 (S' : Int)) ∧ w' = w) fun _ _ h => ⟨h.1, h.2.symm⟩
  have hQ' : S' / P = Q := by rw [← hN', Nat.mul_div_cancel_left _ (by omega)]
  have hbig := back_v (U := U) (D := D) (C := C) (B := B) (A := A) (by omega) (by omega) c1 c4 hB (by omega)
  unfold bk at hbig ⊢
  rw [hP, hQ] at hbig ⊢
  obtain ⟨b1, hb1⟩ : ∃ d : Nat, B / C = d := ⟨_, rfl⟩
  obtain ⟨a1, ha1⟩ : ∃ d : Nat, A / P = d := ⟨_, rfl⟩
  obtain ⟨b2, hb2⟩ : ∃ r : Nat, B % C = r := ⟨_, rfl⟩
  obtain ⟨a2, ha2⟩ : ∃ r : Nat, A % P = r := ⟨_, rfl⟩
  rw [hb1, ha1, hb2, ha2] at hbig ⊢
  obtain ⟨m1, hm1⟩ : ∃ m : Nat, b1 * Q = m := ⟨_, rfl⟩
  rw [hm1] at hbig ⊢
  obtain ⟨m2, hm2⟩ : ∃ m : Nat, (m1 + a1) * C = m := ⟨_, rfl⟩
  rw [hm2] at hbig ⊢
  obtain ⟨m3, hm3⟩ : ∃ m : Nat, (m2 + b2) * P = m := ⟨_, rfl⟩
  rw [hm3] at hbig ⊢
  have l1 : b1 ≤ 1048576 := by rw [← hb1]; exact Nat.le_trans (Nat.div_le_self _ _) hB
  have l2 : a1 ≤ 64 := by rw [← ha1]; exact Nat.le_trans (Nat.div_le_self _ _) (by omega)
  have l3 : b2 < 4 := by rw [← hb2]; have := Nat.mod_lt B (by omega : 0 < C); omega
  have l4 : a2 < 64 := by rw [← ha2]; have := Nat.mod_lt A (by omega : 0 < P); omega
  have l5 : m1 ≤ 67108864 := by
    rw [← hm1]
    have : b1 * Q ≤ 1048576 * 64 := Nat.mul_le_mul l1 q2
    omega
  have l6 : m2 ≤ 1099511627776 := by
    have : (m2 + b2) * 1 ≤ (m2 + b2) * P := Nat.mul_le_mul_left _ p1
    omega
  have t1 : (S' : Int) / (P : Int) = (Q : Int) := by rw [div_cast, hQ']
  have t2 : (B : Int) / (C : Int) = (b1 : Int) := by rw [div_cast, hb1]
  have t3 : (b1 : Int) * (Q : Int) = (m1 : Int) := by rw [mul_cast, hm1]
  have t4 : (A : Int) / (P : Int) = (a1 : Int) := by rw [div_cast, ha1]
  have t5 : ((m1 : Int) + (a1 : Int)) * (C : Int) = (m2 : Int) := by rw [add_cast, mul_cast, hm2]
  have t6 : (B : Int) % (C : Int) = (b2 : Int) := by rw [mod_cast', hb2]
  have t7 : ((m2 : Int) + (b2 : Int)) * (P : Int) = (m3 : Int) := by rw [add_cast, mul_cast, hm3]
  have t8 : (A : Int) % (P : Int) = (a2 : Int) := by rw [mod_cast', ha2]
  have T := Lib.hid (And.intro t1 (And.intro (And.intro t2 (And.intro t3 t4)) (And.intro (And.intro t5 t6) (And.intro t7 t8))))
  clear t1 t2 t3 t4 t5 t6 t7 t8 hP hQ hSe hN' hQ' hb1 ha1 hb2 ha2 hm1 hm2 hm3
  obtain ⟨o, ho⟩ : ∃ o : Int, o = (U : Int) + D := ⟨_, rfl⟩
  rw [← ho] at H po ⊢
  clear ho
  have e1 : decide ((B : Int) < 0) = false := dec_no (by omega)
  have e2 : decide (1048576 < (B : Int)) = false := dec_no (by omega)
  have e3 : decide ((A : Int) < 0) = false := dec_no (by omega)
  have e4 : decide ((S' : Int) ≤ (A : Int)) = false := dec_no (by omega)
  have C1 : (1 : Int) ≤ (C : Int) := by omega
  go_enter Try.func20, Try.ntmps20
  go_wp2_with fail
  refine (refShape_any _ _ _ _).mono ?_
  rintro e w1 ⟨rfl, rfl⟩
  rw [H.out]
  go_wp2_with fail
  refine (po _).mono ?_
  rintro e w1 ⟨rfl, rfl⟩
  go_wp2_with fail
  go_quiet (first | (go_at_call_of 23 (Value.int IntKind.i64 o); exact Calls.quiet_of_same (po _)) | (go_at_call_of 23 (Value.int IntKind.i64 (U : Int)); exact Calls.quiet_of_same (pu _)))
  rw [T.out.1, wrap_nat (n := Q) (by omega)]
  obtain ⟨t2, t3, t4⟩ := T.out.2.1
  go_wp2_with fail
  go_quiet (first | (go_at_call_of 23 (Value.int IntKind.i64 (U : Int)); exact quiet_add_same (pu _)))
  clear t2 t3 t4
  obtain ⟨⟨t5, t6⟩, t7, t8⟩ := T.out.2.2
  go_wp2_with fail
  go_quiet (first | (go_at_call_of 23 (Value.int IntKind.i64 (U : Int)); exact quiet_add_same (pu _)))
  go_wp2_with fail
  go_ret
  refine ⟨ret_int (by omega), ?_⟩
  repeat (first | with_reducible exact Below.refl _ _ | with_reducible refine below_drewN ?_ _ | with_reducible refine Below.alloc ?_ (by simp <;> omega) _)
end Go.Proofs.Ytjbfkpajplmmgaa
