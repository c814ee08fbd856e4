/- The closed examples of the stripe. -/
import Derived.Test.YtjbfkpajplmmgaaStrA
import Derived.LoopN
namespace Go.Proofs.Ytjbfkpajplmmgaa
open Go.RowKit


theorem placeK (X : Nat) (x a b : Int) (hx : x = X) (h : X ≤ 64) (ha : ((oX (2 ^ 2) (2 ^ 1) 2 X : Nat) : Int) = a) (hb : ((oA (2 ^ 2) (2 ^ 1) 2 X : Nat) : Int) = b) (w : World) :
    Calls Try.prog 9 #[.agg #[.int .i64 3, .int .i64 2, .int .i64 2], .int .i64 x] w fun e w' => e = .returned (.tuple #[.int .i64 a, .int .i64 b]) ∧ Below w.heap.size w w' := by
  subst hx ha hb
  exact place_yes 2 1 2 X w (by decide) (by decide) (by decide) (by decide) (by decide) (by omega)
theorem backK (B A : Nat) (x y a : Int) (hx : x = B) (hy : y = A) (h : B ≤ 64) (h2 : A ≤ 64) (ha : ((bk (2 ^ 2) (2 ^ 1) 2 B A : Nat) : Int) = a) (w : World) :
    Calls Try.prog 25 #[.agg #[.int .i64 3, .int .i64 2, .int .i64 2], .int .i64 x, .int .i64 y] w fun e w' => e = .returned (.int .i64 a) ∧ Below w.heap.size w w' := by
  subst hx hy ha
  exact backi_any 2 1 2 B A w (by decide) (by decide) (by decide) (by decide) (by omega) (by omega)

theorem objects0 (w : World) : Calls Try.prog 14 #[.agg #[.int .i64 3, .int .i64 2, .int .i64 2], .int .i64 0] w fun e w' => e = .returned (.int .i64 0) ∧ Below w.heap.size w w' := by
  have hs : shapeL 3 2 2 = true := by decide
  go_enter Try.func14, Try.ntmps14
  go_wp2_with fail
  refine (shape_any _ _ _ _).mono ?_
  rintro e w1 ⟨rfl, rfl⟩
  rw [hs]
  go_wp2_with fail
  refine wp_loop_rounds 2 ?_
  rw [rounds_succ]
  go_wp2_with fail
  go_ret
  exact ⟨rfl, by repeat (first | with_reducible exact Below.refl _ _ | with_reducible assumption | with_reducible refine Below.drew ?_ | with_reducible refine below_drewN ?_ _ | with_reducible refine Below.setCell ?_ (by first | omega | (simp <;> omega)) _ | with_reducible refine Below.alloc ?_ (by first | omega | (simp <;> omega)) _)⟩
set_option maxHeartbeats 1000000 in
theorem objects17 (w : World) : Calls Try.prog 14 #[.agg #[.int .i64 3, .int .i64 2, .int .i64 2], .int .i64 17] w fun e w' => e = .returned (.int .i64 3) ∧ Below w.heap.size w w' := by
  have hs : shapeL 3 2 2 = true := by decide
  go_enter Try.func14, Try.ntmps14
  go_wp2_with fail
  refine (shape_any _ _ _ _).mono ?_
  rintro e w1 ⟨rfl, rfl⟩
  rw [hs]
  go_wp2_with fail
  refine wp_loop_rounds 6 ?_
  rw [rounds_succ]
  go_wp2_with fail
  refine (placeK 0 _ 0 0 rfl (by decide) (by decide) (by decide) _).mono ?_
  rintro e w0 ⟨rfl, hb⟩
  have hx0 : w0.heap[w.heap.size]? = some (.cells #[.int .i64 3, .int .i64 2, .int .i64 2] 23 (0, 0)) := (hb.block _ (by simp <;> omega)).trans ((blk_old (by simp <;> omega)).trans (blk_new rfl))
  have fx0 := blk_cell hx0
  have hz0 : w.heap.size < w0.heap.size := blk_lt hx0
  have hw0 : Below w.heap.size w w0 := Below.trans (B := w.heap.size) (a := w) (by repeat (first | with_reducible exact Below.refl _ _ | with_reducible assumption | with_reducible refine Below.drew ?_ | with_reducible refine below_drewN ?_ _ | with_reducible refine Below.setCell ?_ (by first | omega | (simp <;> omega)) _ | with_reducible refine Below.alloc ?_ (by first | omega | (simp <;> omega)) _)) (hb.mono (by simp <;> omega))
  clear hb
  go_wp2_with fail
  rw [rounds_succ]
  go_wp2_with fail
  refine (placeK 4 _ 1 0 rfl (by decide) (by decide) (by decide) _).mono ?_
  rintro e w1 ⟨rfl, hb⟩
  have hx1 := (hb.block _ (by omega)).trans hx0
  have fx1 := blk_cell hx1
  have hz1 : w.heap.size < w1.heap.size := blk_lt hx1
  have hw1 : Below w.heap.size w w1 := hw0.trans (hb.mono (by omega))
  clear hb hx0 fx0 hz0 hw0
  go_wp2_with fail
  rw [rounds_succ]
  go_wp2_with fail
  refine (placeK 8 _ 0 4 rfl (by decide) (by decide) (by decide) _).mono ?_
  rintro e w2 ⟨rfl, hb⟩
  have hx2 := (hb.block _ (by omega)).trans hx1
  have fx2 := blk_cell hx2
  have hz2 : w.heap.size < w2.heap.size := blk_lt hx2
  have hw2 : Below w.heap.size w w2 := hw1.trans (hb.mono (by omega))
  clear hb hx1 fx1 hz1 hw1
  go_wp2_with fail
  rw [rounds_succ]
  go_wp2_with fail
  refine (placeK 12 _ 1 4 rfl (by decide) (by decide) (by decide) _).mono ?_
  rintro e w3 ⟨rfl, hb⟩
  have hx3 := (hb.block _ (by omega)).trans hx2
  have fx3 := blk_cell hx3
  have hz3 : w.heap.size < w3.heap.size := blk_lt hx3
  have hw3 : Below w.heap.size w w3 := hw2.trans (hb.mono (by omega))
  clear hb hx2 fx2 hz2 hw2
  go_wp2_with fail
  rw [rounds_succ]
  go_wp2_with fail
  refine (placeK 16 _ 2 0 rfl (by decide) (by decide) (by decide) _).mono ?_
  rintro e w4 ⟨rfl, hb⟩
  have hx4 := (hb.block _ (by omega)).trans hx3
  have fx4 := blk_cell hx4
  have hz4 : w.heap.size < w4.heap.size := blk_lt hx4
  have hw4 : Below w.heap.size w w4 := hw3.trans (hb.mono (by omega))
  clear hb hx3 fx3 hz3 hw3
  go_wp2_with fail
  rw [rounds_succ]
  go_wp2_with fail
  go_ret
  exact ⟨rfl, by repeat (first | with_reducible exact Below.refl _ _ | with_reducible assumption | with_reducible refine Below.drew ?_ | with_reducible refine below_drewN ?_ _ | with_reducible refine Below.setCell ?_ (by first | omega | (simp <;> omega)) _ | with_reducible refine Below.alloc ?_ (by first | omega | (simp <;> omega)) _)⟩
set_option maxHeartbeats 1000000 in
theorem bytes61 (w : World) : Calls Try.prog 16 #[.agg #[.int .i64 3, .int .i64 2, .int .i64 2], .int .i64 6, .int .i64 1] w fun e w' => e = .returned (.int .i64 2) ∧ Below w.heap.size w w' := by
  have hs : shapeL 3 2 2 = true := by decide
  go_enter Try.func16, Try.ntmps16
  go_wp2_with fail
  refine (shape_any _ _ _ _).mono ?_
  rintro e w1 ⟨rfl, rfl⟩
  rw [hs]
  go_wp2_with fail
  refine wp_loop_rounds 8 ?_
  rw [rounds_succ]
  go_wp2_with fail
  refine (backK 1 7 _ _ 15 rfl rfl (by decide) (by decide) (by decide) _).mono ?_
  rintro e w0 ⟨rfl, hb⟩
  have hx0 : w0.heap[w.heap.size]? = some (.cells #[.int .i64 3, .int .i64 2, .int .i64 2] 23 (0, 0)) := (hb.block _ (by simp <;> omega)).trans ((blk_old (by simp <;> omega)).trans (blk_new rfl))
  have fx0 := blk_cell hx0
  have hz0 : w.heap.size < w0.heap.size := blk_lt hx0
  have hw0 : Below w.heap.size w w0 := Below.trans (B := w.heap.size) (a := w) (by repeat (first | with_reducible exact Below.refl _ _ | with_reducible assumption | with_reducible refine Below.drew ?_ | with_reducible refine below_drewN ?_ _ | with_reducible refine Below.setCell ?_ (by first | omega | (simp <;> omega)) _ | with_reducible refine Below.alloc ?_ (by first | omega | (simp <;> omega)) _)) (hb.mono (by simp <;> omega))
  clear hb
  go_wp2_with fail
  rw [rounds_succ]
  go_wp2_with fail
  refine (backK 1 6 _ _ 14 rfl rfl (by decide) (by decide) (by decide) _).mono ?_
  rintro e w1 ⟨rfl, hb⟩
  have hx1 := (hb.block _ (by omega)).trans hx0
  have fx1 := blk_cell hx1
  have hz1 : w.heap.size < w1.heap.size := blk_lt hx1
  have hw1 : Below w.heap.size w w1 := hw0.trans (hb.mono (by omega))
  clear hb hx0 fx0 hz0 hw0
  go_wp2_with fail
  rw [rounds_succ]
  go_wp2_with fail
  refine (backK 1 5 _ _ 13 rfl rfl (by decide) (by decide) (by decide) _).mono ?_
  rintro e w2 ⟨rfl, hb⟩
  have hx2 := (hb.block _ (by omega)).trans hx1
  have fx2 := blk_cell hx2
  have hz2 : w.heap.size < w2.heap.size := blk_lt hx2
  have hw2 : Below w.heap.size w w2 := hw1.trans (hb.mono (by omega))
  clear hb hx1 fx1 hz1 hw1
  go_wp2_with fail
  rw [rounds_succ]
  go_wp2_with fail
  refine (backK 1 4 _ _ 12 rfl rfl (by decide) (by decide) (by decide) _).mono ?_
  rintro e w3 ⟨rfl, hb⟩
  have hx3 := (hb.block _ (by omega)).trans hx2
  have fx3 := blk_cell hx3
  have hz3 : w.heap.size < w3.heap.size := blk_lt hx3
  have hw3 : Below w.heap.size w w3 := hw2.trans (hb.mono (by omega))
  clear hb hx2 fx2 hz2 hw2
  go_wp2_with fail
  rw [rounds_succ]
  go_wp2_with fail
  refine (backK 1 3 _ _ 7 rfl rfl (by decide) (by decide) (by decide) _).mono ?_
  rintro e w4 ⟨rfl, hb⟩
  have hx4 := (hb.block _ (by omega)).trans hx3
  have fx4 := blk_cell hx4
  have hz4 : w.heap.size < w4.heap.size := blk_lt hx4
  have hw4 : Below w.heap.size w w4 := hw3.trans (hb.mono (by omega))
  clear hb hx3 fx3 hz3 hw3
  go_wp2_with fail
  rw [rounds_succ]
  go_wp2_with fail
  refine (backK 1 2 _ _ 6 rfl rfl (by decide) (by decide) (by decide) _).mono ?_
  rintro e w5 ⟨rfl, hb⟩
  have hx5 := (hb.block _ (by omega)).trans hx4
  have fx5 := blk_cell hx5
  have hz5 : w.heap.size < w5.heap.size := blk_lt hx5
  have hw5 : Below w.heap.size w w5 := hw4.trans (hb.mono (by omega))
  clear hb hx4 fx4 hz4 hw4
  go_wp2_with fail
  rw [rounds_succ]
  go_wp2_with fail
  refine (backK 1 1 _ _ 5 rfl rfl (by decide) (by decide) (by decide) _).mono ?_
  rintro e w6 ⟨rfl, hb⟩
  have hx6 := (hb.block _ (by omega)).trans hx5
  have fx6 := blk_cell hx6
  have hz6 : w.heap.size < w6.heap.size := blk_lt hx6
  have hw6 : Below w.heap.size w w6 := hw5.trans (hb.mono (by omega))
  clear hb hx5 fx5 hz5 hw5
  go_wp2_with fail
  go_ret
  exact ⟨rfl, by repeat (first | with_reducible exact Below.refl _ _ | with_reducible assumption | with_reducible refine Below.drew ?_ | with_reducible refine below_drewN ?_ _ | with_reducible refine Below.setCell ?_ (by first | omega | (simp <;> omega)) _ | with_reducible refine Below.alloc ?_ (by first | omega | (simp <;> omega)) _)⟩

end Go.Proofs.Ytjbfkpajplmmgaa
