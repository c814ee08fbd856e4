/- The shape that a law draws, and the closed examples. -/
import Derived.Test.YtidcgbegpmihaaaRingF
namespace Go.Proofs.Ytidcgbegpmihaaa
open Go.RowKit

theorem shape_any (a b c : Int) (w : World) : Calls Try.prog 15 #[.int .i64 a, .int .i64 b, .int .i64 c] w fun e w' =>
    e = .returned (.agg #[.int .i64 (1 + a % 4), .int .i64 (4 + b % 256 % 5), .int .i64 (512 + c % 65536 % 3585)]) ∧ Below w.heap.size w w' := by
  have H1 : bits .and .i64 a 3 = a % 4 := i64_mask 2 (by decide) a 3 (by decide)
  have H2 : bits .and .i64 b 255 = b % 256 := i64_mask 8 (by decide) b 255 (by decide)
  have H3 : bits .and .i64 c 65535 = c % 65536 := i64_mask 16 (by decide) c 65535 (by decide)
  have H4 : (b % 256).tmod 5 = b % 256 % 5 := Int.tmod_eq_emod_of_nonneg (by omega)
  have H5 : (c % 65536).tmod 3585 = c % 65536 % 3585 := Int.tmod_eq_emod_of_nonneg (by omega)
  have H6 : 0 ≤ a % 4 ∧ a % 4 < 4 := by omega
  have H7 : 0 ≤ b % 256 % 5 ∧ b % 256 % 5 < 5 := by omega
  have H8 : 0 ≤ c % 65536 % 3585 ∧ c % 65536 % 3585 < 3585 := by omega
  go_enter Try.func15, Try.ntmps15
  go_wp2_with fail
  exact bodyPost_ret (v := .agg #[.int .i64 (1 + a % 4), .int .i64 (4 + b % 256 % 5), .int .i64 (512 + c % 65536 % 3585)]) (by simp [results, Try.results15, go_sem]) rfl ⟨rfl, by repeat (first | with_reducible exact Below.refl _ _ | with_reducible refine Below.setCell ?_ (by simp <;> omega) _ | with_reducible refine Below.alloc ?_ (by simp <;> omega) _)⟩

theorem known_any (w : World) : Calls Try.prog 14 #[] w fun e w' => e = .returned (.bool true) ∧ Below w.heap.size w w' := by
  go_enter Try.func14, Try.ntmps14
  go_wp2_with fail
  refine (rput_any _ _ _ _ _ _ _ _ _ _ _).mono ?_
  rintro e w1 ⟨f0, f1, f2, f3, f4, p0, p1, nx, ok, rfl, hM, hb1⟩
  have hd : putM 2 4 512 0 0 0 0 0 1 10 = ((0, 0, 32, 0, 0), (0, 1), false, true) := by decide
  rw [hd] at hM
  simp only [Prod.mk.injEq] at hM
  obtain ⟨⟨rfl, rfl, rfl, rfl, rfl⟩, ⟨rfl, rfl⟩, rfl, rfl⟩ := hM
  clear hd
  have hbx : w1.heap[w.heap.size]? = some (.cells #[.int .i64 2, .int .i64 4, .int .i64 512] 23 (0, 0)) := (hb1.block _ (by simp)).trans (blk_new rfl)
  have fx := blk_cell hbx
  have hlt : w.heap.size < w1.heap.size := blk_lt hbx
  have hlt1 : w.heap.size < w1.heap.size + 1 := Nat.lt_succ_of_lt hlt
  have hlt2 : w.heap.size < w1.heap.size + 2 := Nat.lt_succ_of_lt hlt1
  have hlt3 : w.heap.size < w1.heap.size + 3 := Nat.lt_succ_of_lt hlt2
  have hlt4 : w.heap.size < w1.heap.size + 4 := Nat.lt_succ_of_lt hlt3
  have hbw : Below w.heap.size w w1 := ((Below.refl w.heap.size w).alloc (Nat.le_refl _) _).trans (hb1.mono (by simp))
  clear hb1
  go_wp2_with fail
  refine (right_any _ _ _ _).mono ?_
  rintro e w2 ⟨rfl, rfl⟩
  have hr1 : rightR 2 4 512 = true := by decide
  rw [hr1]
  clear hr1
  go_wp2_with fail
  refine (right_any _ _ _ _).mono ?_
  rintro e w2 ⟨rfl, rfl⟩
  have hr1 : rightR 0 0 0 = false := by decide
  rw [hr1]
  clear hr1
  go_wp2_with fail
  refine (num_any _ _ _ _ _ _).mono ?_
  rintro e w3 ⟨rfl, hb3⟩
  have hb13 : Below w1.heap.size w1 w3 := Below.trans (B := w1.heap.size) (a := w1) (by repeat (first | with_reducible exact Below.refl _ _ | with_reducible refine Below.alloc ?_ (by simp <;> omega) _)) (hb3.mono (by simp <;> omega))
  have fx3 := blk_cell ((hb13.block _ hlt).trans hbx)
  have hb03 : Below w.heap.size w w3 := hbw.trans (hb13.mono (Nat.le_of_lt hlt))
  clear hb3 hb13
  have hr1 : numM 2 4 512 5 1 = 3 := by decide
  rw [hr1]
  clear hr1
  go_wp2_with fail
  refine (sets_any 2 4 512 0 _ _ _ [] _ (Reads.nil_ _ _ _) (by decide) (by decide) (by decide)).mono ?_
  rintro e w4 ⟨A, c, q, rfl, hown, hb4⟩
  have hq := own_len hown
  have hr1 : setsM 2 4 512 0 [] = [] := by decide
  rw [hr1] at hq
  have hq0 : q = 0 := by simp [pcells] at hq; omega
  subst hq0
  clear hr1 hq
  go_wp2_with fail
  go_ret
  exact ⟨rfl, hb03.trans (hb4.mono hb03.size)⟩
end Go.Proofs.Ytidcgbegpmihaaa
