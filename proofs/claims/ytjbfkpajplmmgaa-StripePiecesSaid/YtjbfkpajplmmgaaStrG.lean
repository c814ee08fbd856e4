/- The reference place. -/
import Derived.Test.YtjbfkpajplmmgaaStrF
import Derived.Deep.RegionWith
namespace Go.Proofs.Ytjbfkpajplmmgaa
open Go.RowKit

theorem below_new {w w' : World} (h : w = w') : Below w.heap.size w w' := by subst h; exact Below.refl _ _

theorem quiet_add_same {P : Program} {f : FuncId} {args : Array Value} {w : World} {a n : Nat} {v : Value}
    (h : Calls P f args (w.drewN (a + n)) fun e w' => e = .returned v ∧ w' = w.drewN (a + n)) :
    Calls P f args (w.drewN (a + n)) fun e w'' => e = .returned v ∧ ∃ m, w'' = w.drewN (a + m) :=
  h.mono fun _ _ ⟨he, hm⟩ => ⟨he, n, hm⟩

set_option maxHeartbeats 1000000 in
theorem rplace_yes (U D C X : Nat) (w : World) (u2 : 2 ≤ U) (d6 : U + D ≤ 6) (d3 : 3 ≤ U + D) (c1 : 1 ≤ C) (c4 : C ≤ 4) (hX : X ≤ 1073741824) :
    Calls Try.prog 10 #[.agg #[.int .i64 ((U : Int) + D), .int .i64 U, .int .i64 C], .int .i64 X] w fun e w' => e = .returned (.tuple #[.int .i64 (oX (2 ^ U) (2 ^ D) C X : Nat), .int .i64 (oA (2 ^ U) (2 ^ D) C X : Nat)]) ∧ Below w.heap.size w w' := by
  have H := Lib.hid (shape_of u2 d6 d3 c1 c4)
  obtain ⟨P, hP, p1, p2⟩ := pow_small (U := U) (by omega)
  obtain ⟨Q, hQ, q1, q2⟩ := pow_small (U := D) (by omega)
  have hN : 2 ^ (U + D) = P * Q := by rw [Nat.pow_add, hP, hQ]
  obtain ⟨N, hN'⟩ : ∃ N : Nat, P * Q = N := ⟨_, rfl⟩
  rw [hN'] at hN
  have hNb : N ≤ 64 := by rw [← hN]; exact Nat.pow_le_pow_right (n := 2) (by decide) d6
  have pu := fun w => pow_any U U P rfl (by omega) hP w
  have po := fun w => pow_any ((U : Int) + D) (U + D) N (by push_cast; rfl) d6 hN w
  have hQ' : N / P = Q := by rw [← hN', Nat.mul_div_cancel_left _ (by omega)]
  unfold oX oA
  rw [hP, hQ]
  obtain ⟨d, hd⟩ : ∃ d : Nat, X / P = d := ⟨_, rfl⟩
  obtain ⟨x1, hx1⟩ : ∃ d : Nat, X % P = d := ⟨_, rfl⟩
  obtain ⟨r, hr⟩ : ∃ r : Nat, d / C = r := ⟨_, rfl⟩
  obtain ⟨b, hb⟩ : ∃ r : Nat, d % C = r := ⟨_, rfl⟩
  obtain ⟨rq, hrq⟩ : ∃ r' : Nat, r / Q = r' := ⟨_, rfl⟩
  obtain ⟨rm, hrm⟩ : ∃ r' : Nat, r % Q = r' := ⟨_, rfl⟩
  have b1 : d ≤ 1073741824 := by rw [← hd]; exact Nat.le_trans (Nat.div_le_self _ _) hX
  have b2 : r ≤ 1073741824 := by rw [← hr]; exact Nat.le_trans (Nat.div_le_self _ _) b1
  have b3 : rq ≤ 1073741824 := by rw [← hrq]; exact Nat.le_trans (Nat.div_le_self _ _) b2
  have b4 : b < 4 := by rw [← hb]; have := Nat.mod_lt d (by omega : 0 < C); omega
  have b5 : rm < 64 := by rw [← hrm]; have := Nat.mod_lt r (by omega : 0 < Q); omega
  have b6 : x1 < 64 := by rw [← hx1]; have := Nat.mod_lt X (by omega : 0 < P); omega
  obtain ⟨m1, hm1⟩ : ∃ m : Nat, rq * C = m := ⟨_, rfl⟩
  obtain ⟨m2, hm2⟩ : ∃ m : Nat, rm * P = m := ⟨_, rfl⟩
  have b7 : m1 ≤ 4294967296 := by
    rw [← hm1]
    have : rq * C ≤ 1073741824 * 4 := Nat.mul_le_mul b3 c4
    omega
  have b8 : m2 ≤ 4096 := by
    rw [← hm2]
    have : rm * P ≤ 64 * 64 := Nat.mul_le_mul (by omega) p2
    omega
  rw [hd, hx1, hr, hb, hrq, hrm, hm1, hm2]
  have t1 : (X : Int) / (P : Int) = (d : Int) := by rw [div_cast, hd]
  have t2 : (X : Int) % (P : Int) = (x1 : Int) := by rw [mod_cast', hx1]
  have t3 : (N : Int) / (P : Int) = (Q : Int) := by rw [div_cast, hQ']
  have t4 : (d : Int) / (C : Int) = (r : Int) := by rw [div_cast, hr]
  have t5 : (d : Int) % (C : Int) = (b : Int) := by rw [mod_cast', hb]
  have t6 : (r : Int) / (Q : Int) = (rq : Int) := by rw [div_cast, hrq]
  have t7 : (r : Int) % (Q : Int) = (rm : Int) := by rw [mod_cast', hrm]
  have t8 : (rq : Int) * (C : Int) = (m1 : Int) := by rw [mul_cast, hm1]
  have t9 : (rm : Int) * (P : Int) = (m2 : Int) := by rw [mul_cast, hm2]
  have T := Lib.hid (And.intro (And.intro t1 (And.intro t2 t3)) (And.intro (And.intro t4 t5) (And.intro (And.intro t6 t7) (And.intro t8 t9))))
  clear t1 t2 t3 t4 t5 t6 t7 t8 t9 hP hQ hN hN' hQ' hd hx1 hr hb hrq hrm hm1 hm2
  obtain ⟨o, ho⟩ : ∃ o : Int, o = (U : Int) + D := ⟨_, rfl⟩
  rw [← ho] at H po ⊢
  have o6 : o ≤ 6 := by omega
  have oU : (U : Int) ≤ o := by omega
  have o3 : 3 ≤ o := by omega
  clear ho
  have d1 : decide ((X : Int) < 0) = false := dec_no (by omega)
  have d2 : decide (1073741824 < (X : Int)) = false := dec_no (by omega)
  have U2 : (2 : Int) ≤ (U : Int) := by omega
  have C1 : (1 : Int) ≤ (C : Int) := by omega
  go_enter Try.func10, Try.ntmps10
  go_wp2_with fail
  refine (refShape_any _ _ _ _).mono ?_
  rintro e w1 ⟨rfl, rfl⟩
  rw [H.out]
  go_wp2_with fail
  refine (pu _).mono ?_
  rintro e w1 ⟨rfl, rfl⟩
  go_wp2_with fail
  rw [T.out.1.1, wrap_nat (n := d) (by omega)]
  have pu' := fun w => (pu w).mono (R' := fun e w' => e = Ending.returned (Value.int IntKind.i64 (P : Int)) ∧ w' = w) fun _ _ h => ⟨h.1, h.2.symm⟩
  have po' := fun w => (po w).mono (R' := fun e w' => e = Ending.returned (Value.int IntKind.i64 (N : Int)) ∧ w' = w) fun _ _ h => ⟨h.1, h.2.symm⟩
  go_quiet (first | (go_at_call_of 23 (Value.int IntKind.i64 o); exact Calls.quiet_of_same (po' _)) | (go_at_call_of 23 (Value.int IntKind.i64 (U : Int)); exact Calls.quiet_of_same (pu' _)))
  rw [T.out.1.2.2, wrap_nat (n := Q) (by omega)]
  go_wp2_with fail
  rw [T.out.2.1.1, wrap_nat (n := r) (by omega)]
  obtain ⟨⟨t1, t2, t3⟩, ⟨t4, t5⟩, ⟨t6, t7⟩, t8, t9⟩ := T.out
  clear T t1 t3 t4
  go_quiet (first | (go_at_call_of 23 (Value.int IntKind.i64 (U : Int)); exact quiet_add_same (pu' _)))
  go_wp2_with fail
  go_ret2
  refine ⟨?_, ?_⟩
  · exact ret_two (by omega) (by omega)
  · repeat (first | with_reducible exact Below.refl _ _ | with_reducible refine below_drewN ?_ _ | with_reducible refine Below.alloc ?_ (by simp <;> omega) _)

theorem rplace_no (o u c off : Int) (w : World) (h : shapeL o u c = false ∨ off < 0 ∨ 1073741824 < off) :
    Calls Try.prog 10 #[.agg #[.int .i64 o, .int .i64 u, .int .i64 c], .int .i64 off] w fun e w' => e = .returned (.tuple #[.int .i64 0, .int .i64 0]) ∧ Below w.heap.size w w' := by
  cases hs : shapeL o u c
  · have H := Lib.hid hs
    clear h hs
    go_enter Try.func10, Try.ntmps10
    go_wp2_with fail
    refine (refShape_any _ _ _ _).mono ?_
    rintro e w1 ⟨rfl, rfl⟩
    rw [H.out]
    go_wp2_with fail
    go_ret2
    exact ⟨rfl, by repeat (first | with_reducible exact Below.refl _ _ | with_reducible refine Below.alloc ?_ (by simp <;> omega) _)⟩
  · have H := Lib.hid hs
    have h' : off < 0 ∨ 1073741824 < off := by
      rcases h with h | h
      · rw [hs] at h; cases h
      · exact h
    clear h hs
    by_cases d1 : off < 0
    · have e1 := dec_yes d1
      go_enter Try.func10, Try.ntmps10
      go_wp2_with fail
      refine (refShape_any _ _ _ _).mono ?_
      rintro e w1 ⟨rfl, rfl⟩
      rw [H.out]
      go_wp2_with fail
      go_ret2
      exact ⟨rfl, by repeat (first | with_reducible exact Below.refl _ _ | with_reducible refine Below.alloc ?_ (by simp <;> omega) _)⟩
    · have e1 := dec_no d1
      have e2 : decide (1073741824 < off) = true := dec_yes (by omega)
      clear h' d1
      go_enter Try.func10, Try.ntmps10
      go_wp2_with fail
      refine (refShape_any _ _ _ _).mono ?_
      rintro e w1 ⟨rfl, rfl⟩
      rw [H.out]
      go_wp2_with fail
      go_ret2
      exact ⟨rfl, by repeat (first | with_reducible exact Below.refl _ _ | with_reducible refine Below.alloc ?_ (by simp <;> omega) _)⟩
end Go.Proofs.Ytjbfkpajplmmgaa
