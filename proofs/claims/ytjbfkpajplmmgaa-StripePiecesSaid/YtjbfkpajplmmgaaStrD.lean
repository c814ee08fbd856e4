/- known; the shape that a law draws; StripeOne. -/
import Derived.Test.YtjbfkpajplmmgaaStrC
namespace Go.Proofs.Ytjbfkpajplmmgaa
open Go.RowKit

set_option maxHeartbeats 1000000 in
theorem known_any (w : World) : Calls Try.prog 18 #[] w fun e w' => e = .returned (.bool true) ∧ Below w.heap.size w w' := by
  go_enter Try.func18, Try.ntmps18
  go_wp2_with fail
  refine (placeK 4 _ 1 0 rfl (by decide) (by decide) (by decide) _).mono ?_
  rintro e wa ⟨rfl, hb⟩
  have hxwa : wa.heap[w.heap.size]? = some (.cells #[.int .i64 3, .int .i64 2, .int .i64 2] 23 (0, 0)) := (hb.block _ (by simp <;> omega)).trans (blk_new rfl)
  have fxwa := blk_cell hxwa
  have hzwa : w.heap.size < wa.heap.size := blk_lt hxwa
  have hwwa : Below w.heap.size w wa := Below.trans (B := w.heap.size) (a := w) (by repeat (first | with_reducible exact Below.refl _ _ | with_reducible assumption | with_reducible refine Below.drew ?_ | with_reducible refine below_drewN ?_ _ | with_reducible refine Below.setCell ?_ (by first | omega | (simp <;> omega)) _ | with_reducible refine Below.alloc ?_ (by first | omega | (simp <;> omega)) _)) (hb.mono (by simp <;> omega))
  clear hb
  go_wp2_with fail
  refine (map08 _).mono ?_
  rintro e wb ⟨A, c, rfl, how, hb⟩
  have hxwb := (hb.block _ (by omega)).trans hxwa
  have fxwb := blk_cell hxwb
  have hzwb : w.heap.size < wb.heap.size := blk_lt hxwb
  have hwwb : Below w.heap.size w wb := hwwa.trans (hb.mono (by omega))
  clear hb hxwa fxwa hzwa hwwa
  obtain ⟨g, rfl, -, hlg, c4, -⟩ := own_at (j := 4) how (u := .int .i64 1) rfl
  obtain ⟨g', eg, -, -, c5, -⟩ := own_at (j := 5) how (u := .int .i64 0) rfl
  cases eg
  obtain ⟨g', eg, -, -, c6, -⟩ := own_at (j := 6) how (u := .int .i64 4) rfl
  cases eg
  obtain ⟨g', eg, -, -, c7, -⟩ := own_at (j := 7) how (u := .int .i64 4) rfl
  cases eg
  go_wp2_with fail
  refine (objects0 _).mono ?_
  rintro e wc ⟨rfl, hb⟩
  have hxwc := (hb.block _ (by omega)).trans hxwb
  have fxwc := blk_cell hxwc
  have hzwc : w.heap.size < wc.heap.size := blk_lt hxwc
  have hwwc : Below w.heap.size w wc := hwwb.trans (hb.mono (by omega))
  clear hb hxwb fxwb hzwb hwwb c4 c5 c6 c7 how hlg
  go_wp2_with fail
  refine (objects17 _).mono ?_
  rintro e wd ⟨rfl, hb⟩
  have hxwd := (hb.block _ (by omega)).trans hxwc
  have fxwd := blk_cell hxwd
  have hzwd : w.heap.size < wd.heap.size := blk_lt hxwd
  have hwwd : Below w.heap.size w wd := hwwc.trans (hb.mono (by omega))
  clear hb hxwc fxwc hzwc hwwc
  go_wp2_with fail
  refine (bytes61 _).mono ?_
  rintro e we ⟨rfl, hb⟩
  have hwwe : Below w.heap.size w we := hwwd.trans (hb.mono (by omega))
  clear hb hxwd fxwd hzwd hwwd
  go_wp2_with fail
  go_ret
  exact ⟨rfl, by repeat (first | with_reducible exact Below.refl _ _ | with_reducible assumption | with_reducible refine Below.drew ?_ | with_reducible refine below_drewN ?_ _ | with_reducible refine Below.setCell ?_ (by first | omega | (simp <;> omega)) _ | with_reducible refine Below.alloc ?_ (by first | omega | (simp <;> omega)) _)⟩

theorem shape8_any (a b c : Int) (w : World) : ∃ U D C : Nat, 2 ≤ U ∧ U + D ≤ 6 ∧ 3 ≤ U + D ∧ 1 ≤ C ∧ C ≤ 4 ∧ (C : Int) = 1 + c % 4 ∧
    Calls Try.prog 8 #[.int .i64 a, .int .i64 b, .int .i64 c] w fun e w' => e = .returned (.agg #[.int .i64 ((U : Int) + D), .int .i64 U, .int .i64 C]) ∧ Below w.heap.size w w' := by
  have H1 : bits .and .i64 a 3 = a % 4 := i64_mask 2 (by decide) a 3 (by decide)
  have H2 : bits .and .i64 b 255 = b % 256 := i64_mask 8 (by decide) b 255 (by decide)
  have H3 : bits .and .i64 c 3 = c % 4 := i64_mask 2 (by decide) c 3 (by decide)
  have k1 : 0 ≤ a % 4 ∧ a % 4 < 4 := by omega
  have k3 : 0 ≤ c % 4 ∧ c % 4 < 4 := by omega
  have k2 : 0 ≤ b % 256 := by omega
  generalize a % 4 = a' at *
  generalize c % 4 = c' at *
  generalize b % 256 = b' at *
  have H4 : b'.tmod (3 + a' - 1) = b' % (3 + a' - 1) := Int.tmod_eq_emod_of_nonneg k2
  have k4 := Int.emod_nonneg b' (by omega : 3 + a' - 1 ≠ 0)
  have k5 := Int.emod_lt_of_pos b' (by omega : 0 < 3 + a' - 1)
  generalize b' % (3 + a' - 1) = r at *
  have k6 : ¬ (3 + a' - 1 = 0) := by omega
  refine ⟨(2 + r).toNat, (1 + a' - r).toNat, (1 + c').toNat, by omega, by omega, by omega, by omega, by omega, by omega, ?_⟩
  have e1 : (((2 + r).toNat : Int) + (1 + a' - r).toNat) = 3 + a' := by omega
  have e2 : ((2 + r).toNat : Int) = 2 + r := by omega
  have e3 : ((1 + c').toNat : Int) = 1 + c' := by omega
  rw [e1, e2, e3]
  clear e1 e2 e3
  go_enter Try.func8, Try.ntmps8
  go_wp2_with fail
  exact bodyPost_ret (v := .agg #[.int .i64 (3 + a'), .int .i64 (2 + r), .int .i64 (1 + c')]) (by simp [results, Try.results8, go_sem]) rfl ⟨rfl, by repeat (first | with_reducible exact Below.refl _ _ | with_reducible assumption | with_reducible refine Below.drew ?_ | with_reducible refine below_drewN ?_ _ | with_reducible refine Below.setCell ?_ (by first | omega | (simp <;> omega)) _ | with_reducible refine Below.alloc ?_ (by first | omega | (simp <;> omega)) _)⟩
end Go.Proofs.Ytjbfkpajplmmgaa
