/- Scratch. -/
import Derived.Test.YtjbfkpajplmmgaaProg
import Derived.Test.YtjbfkpajplmmgaaStrP
namespace Go.Proofs.Ytjbfkpajplmmgaa
open Go.RowKit
theorem bool_of {p q : Bool} (h : p = true ↔ q = true) : p = q := by rw [Bool.eq_iff_iff]; exact h
theorem dec_yes {p : Prop} [Decidable p] (h : p) : decide p = true := decide_eq_true h
theorem dec_no {p : Prop} [Decidable p] (h : ¬ p) : decide p = false := decide_eq_false h

theorem ret_two {a b c d : Int} (h1 : a = c) (h2 : b = d) : Ending.returned (.tuple #[.int .i64 a, .int .i64 b]) = Ending.returned (.tuple #[.int .i64 c, .int .i64 d]) := by rw [h1, h2]

def shapeL (o u c : Int) : Bool := decide (3 ≤ o) && decide (o ≤ 6) && decide (2 ≤ u) && decide (u ≤ o) && decide (1 ≤ c) && decide (c ≤ 4)
theorem shape_yes {o u c : Int} (h : shapeL o u c = true) : 3 ≤ o ∧ o ≤ 6 ∧ 2 ≤ u ∧ u ≤ o ∧ 1 ≤ c ∧ c ≤ 4 := by
  simp [shapeL] at h; omega
theorem shape_mk {o u c : Int} (h : 3 ≤ o ∧ o ≤ 6 ∧ 2 ≤ u ∧ u ≤ o ∧ 1 ≤ c ∧ c ≤ 4) : shapeL o u c = true := by
  simp [shapeL]; omega
theorem shape_any (o u c : Int) (w : World) : Calls Try.prog 21 #[.agg #[.int .i64 o, .int .i64 u, .int .i64 c]] w fun e w' => e = .returned (.bool (shapeL o u c)) ∧ (w.alloc (.cells #[.int .i64 o, .int .i64 u, .int .i64 c] 23)) = w' := by
  go_enter Try.func21, Try.ntmps21
  go_wp2_with fail
  all_goals
    go_ret
    exact ⟨ret_bool (bool_of (by simp [shapeL]; omega)), rfl⟩
theorem refShape_any (o u c : Int) (w : World) : Calls Try.prog 22 #[.agg #[.int .i64 o, .int .i64 u, .int .i64 c]] w fun e w' => e = .returned (.bool (shapeL o u c)) ∧ (w.alloc (.cells #[.int .i64 o, .int .i64 u, .int .i64 c] 23)) = w' := by
  go_enter Try.func22, Try.ntmps22
  go_wp2_with fail
  all_goals
    go_ret
    exact ⟨ret_bool (bool_of (by simp [shapeL]; omega)), rfl⟩

/-- A layout that may be, by natural numbers: o = U + D. -/
theorem shape_nat {o u c : Int} (h : shapeL o u c = true) : ∃ U D C : Nat, u = U ∧ o = (U : Int) + D ∧ c = C ∧ 2 ≤ U ∧ U + D ≤ 6 ∧ 3 ≤ U + D ∧ 1 ≤ C ∧ C ≤ 4 := by
  have := shape_yes h
  exact ⟨u.toNat, (o - u).toNat, c.toNat, by omega, by omega, by omega, by omega, by omega, by omega, by omega, by omega⟩
theorem shape_of {U D C : Nat} (h1 : 2 ≤ U) (h2 : U + D ≤ 6) (h3 : 3 ≤ U + D) (h4 : 1 ≤ C) (h5 : C ≤ 4) : shapeL ((U : Int) + D) U C = true := shape_mk (by omega)

theorem place_yes (U D C X : Nat) (w : World) (u2 : 2 ≤ U) (d6 : U + D ≤ 6) (d3 : 3 ≤ U + D) (c1 : 1 ≤ C) (c4 : C ≤ 4) (hX : X ≤ 1073741824) :
    Calls Try.prog 9 #[.agg #[.int .i64 ((U : Int) + D), .int .i64 U, .int .i64 C], .int .i64 X] w fun e w' => e = .returned (.tuple #[.int .i64 (oX (2 ^ U) (2 ^ D) C X : Nat), .int .i64 (oA (2 ^ U) (2 ^ D) C X : Nat)]) ∧ Below w.heap.size w w' := by
  have H := Lib.hid (shape_of u2 d6 d3 c1 c4)
  have H1 := Lib.hid (place_x (U := U) (D := D) (C := C) (X := X) (by omega) (by omega) c1 c4 hX)
  have H2 := Lib.hid (place_y (U := U) (D := D) (C := C) (X := X) (by omega) (by omega) hX)
  obtain ⟨o, ho⟩ : ∃ o : Int, o = (U : Int) + D := ⟨_, rfl⟩
  rw [← ho] at H ⊢
  have o6 : o ≤ 6 := by omega
  have oU : (U : Int) ≤ o := by omega
  have o3 : 3 ≤ o := by omega
  have HO := Lib.hid ho
  clear ho
  have d1 : decide ((X : Int) < 0) = false := dec_no (by omega)
  have d2 : decide (1073741824 < (X : Int)) = false := dec_no (by omega)
  have U2 : (2 : Int) ≤ (U : Int) := by omega
  have C1 : (1 : Int) ≤ (C : Int) := by omega
  go_enter Try.func9, Try.ntmps9
  go_wp2_with fail
  refine (shape_any _ _ _ _).mono ?_
  rintro e w1 ⟨rfl, rfl⟩
  rw [H.out]
  go_wp2_with fail
  go_quiet (fail)
  go_wp2_with fail
  go_quiet (fail)
  go_wp2_with fail
  go_quiet (fail)
  go_wp2_with fail
  go_ret2
  refine ⟨?_, ?_⟩
  · have hD : o.toNat - U = D := by have := HO.out; omega
    exact ret_two (by rw [hD]; exact H1.out) (by rw [hD]; exact H2.out)
  · repeat (first | with_reducible exact Below.refl _ _ | with_reducible refine below_drewN ?_ _ | with_reducible refine Below.alloc ?_ (by simp <;> omega) _)

theorem place_no (o u c off : Int) (w : World) (h : shapeL o u c = false ∨ off < 0 ∨ 1073741824 < off) :
    Calls Try.prog 9 #[.agg #[.int .i64 o, .int .i64 u, .int .i64 c], .int .i64 off] w fun e w' => e = .returned (.tuple #[.int .i64 0, .int .i64 0]) ∧ Below w.heap.size w w' := by
  cases hs : shapeL o u c
  · have H := Lib.hid hs
    clear h hs
    go_enter Try.func9, Try.ntmps9
    go_wp2_with fail
    refine (shape_any _ _ _ _).mono ?_
    rintro e w1 ⟨rfl, rfl⟩
    rw [H.out]
    go_wp2_with fail
    go_ret2
    exact ⟨rfl, by repeat (first | with_reducible exact Below.refl _ _ | with_reducible refine Below.alloc ?_ (by simp <;> omega) _)⟩
  · have H := Lib.hid hs
    have h' : off < 0 ∨ 1073741824 < off := by
      rcases h with h | h
      · rw [hs] at h; cases h
      · exact h
    clear h hs
    by_cases d1 : off < 0
    · have e1 := dec_yes d1
      go_enter Try.func9, Try.ntmps9
      go_wp2_with fail
      refine (shape_any _ _ _ _).mono ?_
      rintro e w1 ⟨rfl, rfl⟩
      rw [H.out]
      go_wp2_with fail
      go_ret2
      exact ⟨rfl, by repeat (first | with_reducible exact Below.refl _ _ | with_reducible refine Below.alloc ?_ (by simp <;> omega) _)⟩
    · have e1 := dec_no d1
      have e2 : decide (1073741824 < off) = true := dec_yes (by omega)
      clear h' d1
      go_enter Try.func9, Try.ntmps9
      go_wp2_with fail
      refine (shape_any _ _ _ _).mono ?_
      rintro e w1 ⟨rfl, rfl⟩
      rw [H.out]
      go_wp2_with fail
      go_ret2
      exact ⟨rfl, by repeat (first | with_reducible exact Below.refl _ _ | with_reducible refine Below.alloc ?_ (by simp <;> omega) _)⟩

theorem backi_any (U D C B A : Nat) (w : World) (u2 : 2 ≤ U) (d6 : U + D ≤ 6) (c1 : 1 ≤ C) (c4 : C ≤ 4) (hB : B ≤ 1048576) (hA : A ≤ 64) :
    Calls Try.prog 25 #[.agg #[.int .i64 ((U : Int) + D), .int .i64 U, .int .i64 C], .int .i64 B, .int .i64 A] w fun e w' => e = .returned (.int .i64 (bk (2 ^ U) (2 ^ D) C B A : Nat)) ∧ Below w.heap.size w w' := by
  have H1 := Lib.hid (back_w (U := U) (D := D) (C := C) (B := B) (A := A) (by omega) (by omega) c1 c4 hB hA)
  obtain ⟨o, ho⟩ : ∃ o : Int, o = (U : Int) + D := ⟨_, rfl⟩
  rw [← ho]
  have o6 : o ≤ 6 := by omega
  have oU : (U : Int) ≤ o := by omega
  have HO := Lib.hid ho
  clear ho
  have U2 : (2 : Int) ≤ (U : Int) := by omega
  have C1 : (1 : Int) ≤ (C : Int) := by omega
  go_enter Try.func25, Try.ntmps25
  go_wp2_with fail
  go_quiet (fail)
  go_wp2_with fail
  go_quiet (fail)
  go_wp2_with fail
  go_ret
  refine ⟨?_, ?_⟩
  · have hD : o.toNat - U = D := by have := HO.out; omega
    exact ret_int (by rw [hD]; exact H1.out)
  · repeat (first | with_reducible exact Below.refl _ _ | with_reducible refine below_drewN ?_ _ | with_reducible refine Below.alloc ?_ (by simp <;> omega) _)
end Go.Proofs.Ytjbfkpajplmmgaa
