/- The law RingTells: the walk. -/
import Derived.Test.YtidcgbegpmihaaaRingJ
import Derived.Deep.RegionHeld3
import Derived.Laws.StructEq
import Derived.Laws.Tables
import Derived.Laws.Cover2
namespace Go.Proofs.Ytidcgbegpmihaaa
open Go.RowKit


@[go_sem] theorem eq24 (a b c d : Int) (w : World) : (Op.equalIn 9999 24 (.agg #[.int .i64 a, .int .i64 b, .int .i64 c, .int .i64 d]) (.agg #[.int .i64 a, .int .i64 b, .int .i64 c, .int .i64 d])).run Try.prog w = .ok true w := by
  have u3 := Try.underlying3
  have a3 := Try.isAgg3
  have z3 := Try.sizeOf3
  rw [show (9999 : Nat) = 9998 + 1 from rfl, Op.equalIn]
  simp only [Sem.run_bind, run_underlying Try.underlying24, Result.andThen_ok]
  simp only [Std.Legacy.Range.forIn_eq_forIn_range', Std.Legacy.Range.size, Nat.sub_zero, Nat.add_sub_cancel, Nat.div_one, List.range'_succ, List.range'_zero, List.forIn_cons, List.forIn_nil]
  go_simp

set_option maxHeartbeats 4000000 in
theorem tells_law (sp st sz s u0 u1 u2 u3 q n ps po : Int) (w : World) :
    Calls Try.prog 3 #[.agg #[.int .i64 sp, .int .i64 st, .int .i64 sz], .agg #[.int .i64 s, .int .i64 u0, .int .i64 u1, .int .i64 u2, .int .i64 u3], .int .i64 q, .int .i64 n, .agg #[.int .i64 ps, .int .i64 po]] w fun e w' => e = .returned (.bool true) ∧ Below w.heap.size w w' := by
  go_enter Try.func3, Try.ntmps3
  go_wp2_with fail
  refine (rput_any _ _ _ _ _ _ _ _ _ _ _).mono ?_
  rintro e w1 ⟨f0, f1, f2, f3, f4, p0, p1, nx, ok, rfl, hM, hb1⟩
  have HM := Lib.hid hM
  have a5 : w1.heap[w.heap.size]? = some (.cells #[.int .i64 sp, .int .i64 st, .int .i64 sz] 23 (0, 0)) := (hb1.block _ (by simp <;> omega)).trans ((blk_old (by simp <;> omega)).trans ((blk_old (by simp <;> omega)).trans (blk_new rfl)))
  have a6 : w1.heap[w.heap.size + 1]? = some (.cells #[.int .i64 s, .int .i64 u0, .int .i64 u1, .int .i64 u2, .int .i64 u3] 26 (0, 0)) := (hb1.block _ (by simp <;> omega)).trans ((blk_old (by simp <;> omega)).trans (blk_new (by simp)))
  have a9 : w1.heap[w.heap.size + 2]? = some (.cells #[.int .i64 ps, .int .i64 po] 28 (0, 0)) := (hb1.block _ (by simp <;> omega)).trans (blk_new (by simp))
  have x5 := blk_cell a5
  have x6 := blk_cell a6
  have z1 : w.heap.size < w1.heap.size := blk_lt a5
  have z2 : w.heap.size + 1 < w1.heap.size := blk_lt a6
  have z3 : w.heap.size + 2 < w1.heap.size := blk_lt a9
  have z4 : w.heap.size < w1.heap.size + 1 := by omega
  have z5 : w.heap.size + 1 < w1.heap.size + 1 := by omega
  have hbw1 : Below w.heap.size w w1 := Below.trans (B := w.heap.size) (a := w) (by repeat (first | with_reducible exact Below.refl _ _ | with_reducible assumption | with_reducible refine Below.drew ?_ | with_reducible refine below_drewN ?_ _ | with_reducible refine Below.setCell ?_ (by first | omega | (simp <;> omega)) _ | with_reducible refine Below.alloc ?_ (by first | omega | (simp <;> omega)) _)) (hb1.mono (by simp <;> omega))
  clear hM hb1
  go_wp2_with fail
  refine (refput_any _ _ _ _ _ _ _ _ _ _ _).mono ?_
  rintro e w2 ⟨g0, g1, g2, g3, g4, r0, r1, nx', ok', rfl, hM2, hb2⟩
  rw [HM.out] at hM2
  simp only [Prod.mk.injEq] at hM2
  obtain ⟨⟨rfl, rfl, rfl, rfl, rfl⟩, ⟨rfl, rfl⟩, rfl, rfl⟩ := hM2
  have b5 := (hb2.block _ (by simp <;> omega)).trans ((blk_old (by simp <;> omega)).trans ((blk_old z1).trans a5))
  have b9 := (hb2.block _ (by simp <;> omega)).trans ((blk_old (by simp <;> omega)).trans ((blk_old z3).trans a9))
  have b11 : w2.heap[w1.heap.size]? = some (.cells #[.int .i64 f0, .int .i64 f1, .int .i64 f2, .int .i64 f3, .int .i64 f4] 26 (0, 0)) := (hb2.block _ (by simp <;> omega)).trans ((blk_old (by simp <;> omega)).trans (blk_new (by simp)))
  have b12 : w2.heap[w1.heap.size + 1]? = some (.cells #[.int .i64 p0, .int .i64 p1] 28 (0, 0)) := (hb2.block _ (by simp <;> omega)).trans (blk_new (by simp))
  have hbw2 : Below w.heap.size w w2 := Below.trans (B := w.heap.size) (a := w) hbw1 (Below.trans (B := w.heap.size) (a := w1) (by repeat (first | with_reducible exact Below.refl _ _ | with_reducible assumption | with_reducible refine Below.drew ?_ | with_reducible refine below_drewN ?_ _ | with_reducible refine Below.setCell ?_ (by first | omega | (simp <;> omega)) _ | with_reducible refine Below.alloc ?_ (by first | omega | (simp <;> omega)) _)) (hb2.mono (by simp <;> omega)))
  have y1 : w1.heap.size < w2.heap.size := blk_lt b11
  have y2 : w1.heap.size + 1 < w2.heap.size := blk_lt b12
  clear a5 a6 a9 x5 x6 hbw1 hb2 z4 z5
  go_wp2_with fail
  generalize hW : World.alloc (World.alloc w2 _) _ = W3
  have d0 : W3.heap[w.heap.size]? = some (.cells #[.int .i64 sp, .int .i64 st, .int .i64 sz] 23 (0, 0)) := by rw [← hW]; exact (blk_old (by simp <;> omega)).trans ((blk_old (by omega)).trans b5)
  have k0 : w.heap.size < W3.heap.size := blk_lt d0
  have d1 : W3.heap[w.heap.size + 1 + 1]? = some (.cells #[.int .i64 ps, .int .i64 po] 28 (0, 0)) := by rw [← hW]; exact (blk_old (by simp <;> omega)).trans ((blk_old (by omega)).trans b9)
  have k1 : w.heap.size + 1 + 1 < W3.heap.size := blk_lt d1
  have d2 : W3.heap[w1.heap.size]? = some (.cells #[.int .i64 f0, .int .i64 f1, .int .i64 f2, .int .i64 f3, .int .i64 f4] 26 (0, 0)) := by rw [← hW]; exact (blk_old (by simp <;> omega)).trans ((blk_old (by omega)).trans b11)
  have k2 : w1.heap.size < W3.heap.size := blk_lt d2
  have d3 : W3.heap[w1.heap.size + 1]? = some (.cells #[.int .i64 p0, .int .i64 p1] 28 (0, 0)) := by rw [← hW]; exact (blk_old (by simp <;> omega)).trans ((blk_old (by omega)).trans b12)
  have k3 : w1.heap.size + 1 < W3.heap.size := blk_lt d3
  have d4 : W3.heap[w2.heap.size]? = some (.cells #[.int .i64 f0, .int .i64 f1, .int .i64 f2, .int .i64 f3, .int .i64 f4] 26 (0, 0)) := by rw [← hW]; exact (blk_old (by simp <;> omega)).trans (blk_new rfl)
  have k4 : w2.heap.size < W3.heap.size := blk_lt d4
  have d5 : W3.heap[w2.heap.size + 1]? = some (.cells #[.int .i64 p0, .int .i64 p1] 28 (0, 0)) := by rw [← hW]; exact blk_new (by simp)
  have k5 : w2.heap.size + 1 < W3.heap.size := blk_lt d5
  have hbW : Below w.heap.size w W3 := hbw2.trans (by rw [← hW]; have := hbw2.size; (repeat (first | with_reducible exact Below.refl _ _ | with_reducible assumption | with_reducible refine Below.drew ?_ | with_reducible refine below_drewN ?_ _ | with_reducible refine Below.setCell ?_ (by first | omega | (simp <;> omega)) _ | with_reducible refine Below.alloc ?_ (by first | omega | (simp <;> omega)) _)))
  have ks : ∀ W' : World, Below W3.heap.size W3 W' → (W'.cell? ⟨w.heap.size, 0, none⟩ = some (.int .i64 sp) ∧ W'.cell? ⟨w.heap.size, 1, none⟩ = some (.int .i64 st) ∧ W'.cell? ⟨w.heap.size, 2, none⟩ = some (.int .i64 sz) ∧ W'.cell? ⟨w.heap.size + 1 + 1, 0, none⟩ = some (.int .i64 ps) ∧ W'.cell? ⟨w.heap.size + 1 + 1, 1, none⟩ = some (.int .i64 po) ∧ W'.cell? ⟨w1.heap.size, 0, none⟩ = some (.int .i64 f0) ∧ W'.cell? ⟨w1.heap.size, 1, none⟩ = some (.int .i64 f1) ∧ W'.cell? ⟨w1.heap.size, 2, none⟩ = some (.int .i64 f2) ∧ W'.cell? ⟨w1.heap.size, 3, none⟩ = some (.int .i64 f3) ∧ W'.cell? ⟨w1.heap.size, 4, none⟩ = some (.int .i64 f4) ∧ W'.cell? ⟨w1.heap.size + 1, 0, none⟩ = some (.int .i64 p0) ∧ W'.cell? ⟨w1.heap.size + 1, 1, none⟩ = some (.int .i64 p1) ∧ W'.cell? ⟨w2.heap.size, 0, none⟩ = some (.int .i64 f0) ∧ W'.cell? ⟨w2.heap.size, 1, none⟩ = some (.int .i64 f1) ∧ W'.cell? ⟨w2.heap.size, 2, none⟩ = some (.int .i64 f2) ∧ W'.cell? ⟨w2.heap.size, 3, none⟩ = some (.int .i64 f3) ∧ W'.cell? ⟨w2.heap.size, 4, none⟩ = some (.int .i64 f4) ∧ W'.cell? ⟨w2.heap.size + 1, 0, none⟩ = some (.int .i64 p0) ∧ W'.cell? ⟨w2.heap.size + 1, 1, none⟩ = some (.int .i64 p1)) := fun W' hb => ⟨(hb.cell (p := ⟨w.heap.size, 0, none⟩) k0).trans (blk_cell d0 0), (hb.cell (p := ⟨w.heap.size, 1, none⟩) k0).trans (blk_cell d0 1), (hb.cell (p := ⟨w.heap.size, 2, none⟩) k0).trans (blk_cell d0 2), (hb.cell (p := ⟨w.heap.size + 1 + 1, 0, none⟩) k1).trans (blk_cell d1 0), (hb.cell (p := ⟨w.heap.size + 1 + 1, 1, none⟩) k1).trans (blk_cell d1 1), (hb.cell (p := ⟨w1.heap.size, 0, none⟩) k2).trans (blk_cell d2 0), (hb.cell (p := ⟨w1.heap.size, 1, none⟩) k2).trans (blk_cell d2 1), (hb.cell (p := ⟨w1.heap.size, 2, none⟩) k2).trans (blk_cell d2 2), (hb.cell (p := ⟨w1.heap.size, 3, none⟩) k2).trans (blk_cell d2 3), (hb.cell (p := ⟨w1.heap.size, 4, none⟩) k2).trans (blk_cell d2 4), (hb.cell (p := ⟨w1.heap.size + 1, 0, none⟩) k3).trans (blk_cell d3 0), (hb.cell (p := ⟨w1.heap.size + 1, 1, none⟩) k3).trans (blk_cell d3 1), (hb.cell (p := ⟨w2.heap.size, 0, none⟩) k4).trans (blk_cell d4 0), (hb.cell (p := ⟨w2.heap.size, 1, none⟩) k4).trans (blk_cell d4 1), (hb.cell (p := ⟨w2.heap.size, 2, none⟩) k4).trans (blk_cell d4 2), (hb.cell (p := ⟨w2.heap.size, 3, none⟩) k4).trans (blk_cell d4 3), (hb.cell (p := ⟨w2.heap.size, 4, none⟩) k4).trans (blk_cell d4 4), (hb.cell (p := ⟨w2.heap.size + 1, 0, none⟩) k5).trans (blk_cell d5 0), (hb.cell (p := ⟨w2.heap.size + 1, 1, none⟩) k5).trans (blk_cell d5 1)⟩
  have KS := Lib.hid ks
  clear ks d0 d1 d2 d3 d4 d5 b5 b9 b11 b12 hW hbw2 y1 y2 z1 z2 z3 HM
  go_region_held3 (fun W' => W'.cell? ⟨w.heap.size, 0, none⟩ = some (.int .i64 sp) ∧ W'.cell? ⟨w.heap.size, 1, none⟩ = some (.int .i64 st) ∧ W'.cell? ⟨w.heap.size, 2, none⟩ = some (.int .i64 sz) ∧ W'.cell? ⟨w.heap.size + 1 + 1, 0, none⟩ = some (.int .i64 ps) ∧ W'.cell? ⟨w.heap.size + 1 + 1, 1, none⟩ = some (.int .i64 po) ∧ W'.cell? ⟨w1.heap.size, 0, none⟩ = some (.int .i64 f0) ∧ W'.cell? ⟨w1.heap.size, 1, none⟩ = some (.int .i64 f1) ∧ W'.cell? ⟨w1.heap.size, 2, none⟩ = some (.int .i64 f2) ∧ W'.cell? ⟨w1.heap.size, 3, none⟩ = some (.int .i64 f3) ∧ W'.cell? ⟨w1.heap.size, 4, none⟩ = some (.int .i64 f4) ∧ W'.cell? ⟨w1.heap.size + 1, 0, none⟩ = some (.int .i64 p0) ∧ W'.cell? ⟨w1.heap.size + 1, 1, none⟩ = some (.int .i64 p1) ∧ W'.cell? ⟨w2.heap.size, 0, none⟩ = some (.int .i64 f0) ∧ W'.cell? ⟨w2.heap.size, 1, none⟩ = some (.int .i64 f1) ∧ W'.cell? ⟨w2.heap.size, 2, none⟩ = some (.int .i64 f2) ∧ W'.cell? ⟨w2.heap.size, 3, none⟩ = some (.int .i64 f3) ∧ W'.cell? ⟨w2.heap.size, 4, none⟩ = some (.int .i64 f4) ∧ W'.cell? ⟨w2.heap.size + 1, 0, none⟩ = some (.int .i64 p0) ∧ W'.cell? ⟨w2.heap.size + 1, 1, none⟩ = some (.int .i64 p1))
    (exact KS.out _ (by repeat (first | with_reducible exact Below.refl _ _ | with_reducible assumption | with_reducible refine Below.drew ?_ | with_reducible refine below_drewN ?_ _ | with_reducible refine Below.setCell ?_ (by first | omega | (simp <;> omega)) _ | with_reducible refine Below.alloc ?_ (by first | omega | (simp <;> omega)) _)))
    (first | (go_at_call 10; refine (num_any _ _ _ _ _ _).mono ?_; rintro e wn ⟨rfl, hbn⟩; have hbN := Below.trans (B := W3.heap.size) (a := W3) (by repeat (first | with_reducible exact Below.refl _ _ | with_reducible assumption | with_reducible refine Below.drew ?_ | with_reducible refine below_drewN ?_ _ | with_reducible refine Below.setCell ?_ (by first | omega | (simp <;> omega)) _ | with_reducible refine Below.alloc ?_ (by first | omega | (simp <;> omega)) _)) (hbn.mono (by first | omega | (simp <;> omega))); have hsN := hbN.size; clear hbn) | (go_at_call 11; refine (refnum_any _ _ _ _ _ _).mono ?_; rintro e wn ⟨rfl, hbn⟩; have hbN := Below.trans (B := W3.heap.size) (a := W3) (by repeat (first | with_reducible exact Below.refl _ _ | with_reducible assumption | with_reducible refine Below.drew ?_ | with_reducible refine below_drewN ?_ _ | with_reducible refine Below.setCell ?_ (by first | omega | (simp <;> omega)) _ | with_reducible refine Below.alloc ?_ (by first | omega | (simp <;> omega)) _)) (hbn.mono (by first | omega | (simp <;> omega))); have hsN := hbN.size; clear hbn) | (go_at_call 12; refine (right_any _ _ _ _).mono ?_; rintro e wn ⟨rfl, rfl⟩) | (go_at_call 13; refine (refRight_any _ _ _ _).mono ?_; rintro e wn ⟨rfl, rfl⟩) | (go_at_call 14; refine (known_any _).mono ?_; rintro e wn ⟨rfl, hbn⟩; have hbN := Below.trans (B := W3.heap.size) (a := W3) (by repeat (first | with_reducible exact Below.refl _ _ | with_reducible assumption | with_reducible refine Below.drew ?_ | with_reducible refine below_drewN ?_ _ | with_reducible refine Below.setCell ?_ (by first | omega | (simp <;> omega)) _ | with_reducible refine Below.alloc ?_ (by first | omega | (simp <;> omega)) _)) (hbn.mono (by first | omega | (simp <;> omega))); have hsN := hbN.size; clear hbn))
  all_goals (go_wp2_with fail; go_ret; exact ⟨rfl, hbW.trans (Below.mono (B := W3.heap.size) (by repeat (first | with_reducible exact Below.refl _ _ | with_reducible assumption | with_reducible refine Below.drew ?_ | with_reducible refine below_drewN ?_ _ | with_reducible refine Below.setCell ?_ (by first | omega | (simp <;> omega)) _ | with_reducible refine Below.alloc ?_ (by first | omega | (simp <;> omega)) _)) hbW.size)⟩)
end Go.Proofs.Ytidcgbegpmihaaa
