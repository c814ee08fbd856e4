/- The program's and the reference's answers are the same, for any layout and any numbers. -/
import Derived.Test.YtjbfkpajplmmgaaStrO
import Derived.Test.YtjbfkpajplmmgaaStrD
import Derived.Deep.RegionHeld3
namespace Go.Proofs.Ytjbfkpajplmmgaa
open Go.RowKit

theorem place_pair (o u c off : Int) : ∃ x y : Int, (∀ w, Calls Try.prog 9 #[.agg #[.int .i64 o, .int .i64 u, .int .i64 c], .int .i64 off] w fun e w' => e = .returned (.tuple #[.int .i64 x, .int .i64 y]) ∧ Below w.heap.size w w') ∧
    (∀ w, Calls Try.prog 10 #[.agg #[.int .i64 o, .int .i64 u, .int .i64 c], .int .i64 off] w fun e w' => e = .returned (.tuple #[.int .i64 x, .int .i64 y]) ∧ Below w.heap.size w w') := by
  by_cases h : shapeL o u c = true ∧ 0 ≤ off ∧ off ≤ 1073741824
  · obtain ⟨hs, h1, h2⟩ := h
    obtain ⟨U, D, C, rfl, rfl, rfl, u2, d6, d3, c1, c4⟩ := shape_nat hs
    obtain ⟨X, rfl⟩ : ∃ X : Nat, off = X := ⟨off.toNat, by omega⟩
    exact ⟨_, _, fun w => place_yes U D C X w u2 d6 d3 c1 c4 (by omega), fun w => rplace_yes U D C X w u2 d6 d3 c1 c4 (by omega)⟩
  · have h' : shapeL o u c = false ∨ off < 0 ∨ 1073741824 < off := by
      cases hs : shapeL o u c
      · exact .inl rfl
      · rw [hs] at h; right; simp only [true_and] at h; omega
    exact ⟨0, 0, fun w => place_no o u c off w h', fun w => rplace_no o u c off w h'⟩

theorem back_pair (o u c obj at_ : Int) : ∃ x : Int, (∀ w, Calls Try.prog 19 #[.agg #[.int .i64 o, .int .i64 u, .int .i64 c], .int .i64 obj, .int .i64 at_] w fun e w' => e = .returned (.int .i64 x) ∧ Below w.heap.size w w') ∧
    (∀ w, Calls Try.prog 20 #[.agg #[.int .i64 o, .int .i64 u, .int .i64 c], .int .i64 obj, .int .i64 at_] w fun e w' => e = .returned (.int .i64 x) ∧ Below w.heap.size w w') := by
  by_cases h : shapeL o u c = true ∧ 0 ≤ obj ∧ obj ≤ 1048576 ∧ 0 ≤ at_
  · obtain ⟨hs, h1, h2, h3⟩ := h
    obtain ⟨U, D, C, rfl, rfl, rfl, u2, d6, d3, c1, c4⟩ := shape_nat hs
    obtain ⟨B, rfl⟩ : ∃ X : Nat, obj = X := ⟨obj.toNat, by omega⟩
    obtain ⟨A, rfl⟩ : ∃ X : Nat, at_ = X := ⟨at_.toNat, by omega⟩
    by_cases hA : A < 2 ^ (U + D)
    · exact ⟨_, fun w => back_yes U D C B A _ w u2 d6 d3 c1 c4 (by omega) rfl hA, fun w => rback_yes U D C B A _ w u2 d6 d3 c1 c4 (by omega) rfl hA⟩
    · have hA' : ((2 ^ (U + D) : Nat) : Int) ≤ (A : Int) := by omega
      exact ⟨_, fun w => back_far U D C B _ A w u2 d6 d3 c1 c4 (by omega) rfl hA', fun w => rback_far U D C B _ A w u2 d6 d3 c1 c4 (by omega) rfl hA'⟩
  · have h' : shapeL o u c = false ∨ obj < 0 ∨ 1048576 < obj ∨ at_ < 0 := by
      cases hs : shapeL o u c
      · exact .inl rfl
      · rw [hs] at h; right; simp only [true_and] at h; omega
    exact ⟨0, fun w => back_no o u c obj at_ w h', fun w => rback_no o u c obj at_ w h'⟩

theorem objects_pair (o u c size : Int) : ∃ x : Int, (∀ w, Calls Try.prog 14 #[.agg #[.int .i64 o, .int .i64 u, .int .i64 c], .int .i64 size] w fun e w' => e = .returned (.int .i64 x) ∧ Below w.heap.size w w') ∧
    (∀ w, Calls Try.prog 15 #[.agg #[.int .i64 o, .int .i64 u, .int .i64 c], .int .i64 size] w fun e w' => e = .returned (.int .i64 x) ∧ Below w.heap.size w w') := by
  cases hs : shapeL o u c
  · exact ⟨0, fun w => objects_no o u c size w hs, fun w => robjects_no o u c size w hs⟩
  · obtain ⟨U, D, C, rfl, rfl, rfl, u2, d6, d3, c1, c4⟩ := shape_nat hs
    exact ⟨_, fun w => objects_yes U D C size w u2 d6 d3 c1 c4, fun w => robjects_yes U D C size w u2 d6 d3 c1 c4⟩

theorem bytes_pair (o u c size obj : Int) : ∃ x : Int, (∀ w, Calls Try.prog 16 #[.agg #[.int .i64 o, .int .i64 u, .int .i64 c], .int .i64 size, .int .i64 obj] w fun e w' => e = .returned (.int .i64 x) ∧ Below w.heap.size w w') ∧
    (∀ w, Calls Try.prog 17 #[.agg #[.int .i64 o, .int .i64 u, .int .i64 c], .int .i64 size, .int .i64 obj] w fun e w' => e = .returned (.int .i64 x) ∧ Below w.heap.size w w') := by
  cases hs : shapeL o u c
  · exact ⟨0, fun w => bytes_no o u c size obj w (.inl hs), fun w => rbytes_no o u c size obj w hs⟩
  · obtain ⟨U, D, C, rfl, rfl, rfl, u2, d6, d3, c1, c4⟩ := shape_nat hs
    by_cases h : 0 ≤ obj ∧ obj ≤ 1048576
    · obtain ⟨B, rfl⟩ : ∃ X : Nat, obj = X := ⟨obj.toNat, by omega⟩
      refine ⟨_, fun w => bytes_yes U D C B size w u2 d6 d3 c1 c4 (by omega), fun w => ?_⟩
      have := rbytes_yes U D C size (B : Int) w u2 d6 d3 c1 c4
      rw [topI_nat] at this
      exact this
    · refine ⟨0, fun w => bytes_no _ _ _ size obj w (.inr (by omega)), fun w => ?_⟩
      have := rbytes_yes U D C size obj w u2 d6 d3 c1 c4
      rw [topI_far (heldN_le size) (by omega)] at this
      exact this

theorem map_pair (o u c off n : Int) : ∃ L : List Pc, L.length ≤ 512 ∧ (∀ w, Calls Try.prog 12 #[.agg #[.int .i64 o, .int .i64 u, .int .i64 c], .int .i64 off, .int .i64 n] w fun e w' => ∃ A c', e = .returned (.slice A L.length c') ∧ w'.ownsRow w.heap.size 35 4 (.slice A L.length c') L.length (pcs L) ∧ Below w.heap.size w w') ∧
    (∀ w, Calls Try.prog 13 #[.agg #[.int .i64 o, .int .i64 u, .int .i64 c], .int .i64 off, .int .i64 n] w fun e w' => ∃ A c', e = .returned (.slice A L.length c') ∧ w'.ownsRow w.heap.size 35 4 (.slice A L.length c') L.length (pcs L) ∧ Below w.heap.size w w') := by
  by_cases h : shapeL o u c = true ∧ 0 ≤ off ∧ 1 ≤ n ∧ n ≤ 512 ∧ off ≤ 512 - n
  · obtain ⟨hs, h1, h2, h3, h4⟩ := h
    obtain ⟨U, D, C, rfl, rfl, rfl, u2, d6, d3, c1, c4⟩ := shape_nat hs
    obtain ⟨F, rfl⟩ : ∃ X : Nat, off = X := ⟨off.toNat, by omega⟩
    obtain ⟨N, rfl⟩ : ∃ X : Nat, n = X := ⟨n.toNat, by omega⟩
    exact ⟨_, by have := mapR_length (P := 2 ^ U) (Q := 2 ^ D) (C := C) (off := F) N; omega, fun w => map_yes U D C F N w u2 d6 d3 c1 c4 (by omega) (by omega), fun w => rmap_yes U D C F N w u2 d6 d3 c1 c4 (by omega) (by omega)⟩
  · have h' : shapeL o u c = false ∨ off < 0 ∨ n < 1 ∨ 512 < n ∨ 512 - n < off := by
      cases hs : shapeL o u c
      · exact .inl rfl
      · rw [hs] at h; right; simp only [true_and] at h; omega
    exact ⟨[], by simp, fun w => (map_no o u c off n w h').mono fun e w' ⟨he, hb⟩ => ⟨none, 0, he, World.ownsRow_nil _ _ _ _, hb⟩, fun w => (rmap_no o u c off n w h').mono fun e w' ⟨he, hb⟩ => ⟨none, 0, he, World.ownsRow_nil _ _ _ _, hb⟩⟩
end Go.Proofs.Ytjbfkpajplmmgaa
