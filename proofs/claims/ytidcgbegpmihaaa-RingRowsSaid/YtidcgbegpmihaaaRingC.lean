/- Scratch. -/
import Derived.Test.YtidcgbegpmihaaaRingB
namespace Go.Proofs.Ytidcgbegpmihaaa
open Go.RowKit

theorem mod_cases {sp q : Int} (h1 : 1 ≤ sp) (h4 : sp ≤ 4) : q % sp = 0 ∨ q % sp = 1 ∨ q % sp = 2 ∨ q % sp = 3 := by
  have a := Int.emod_nonneg q (by omega : sp ≠ 0)
  have b := Int.emod_lt_of_pos q (by omega : 0 < sp)
  omega
theorem putM_no {sp st sz s u0 u1 u2 u3 q n : Int} (h : okP sp st sz s u0 u1 u2 u3 q n = false) : putM sp st sz s u0 u1 u2 u3 q n = ((0, 0, 0, 0, 0), (0, 0), false, false) := by
  unfold putM; rw [h]; rfl
theorem putM_next {sp st sz s u0 u1 u2 u3 q n : Int} (h : okP sp st sz s u0 u1 u2 u3 q n = true) (hg : sz < pk u0 u1 u2 u3 (q % sp) + (22 + n)) :
    putM sp st sz s u0 u1 u2 u3 q n = (addU (s + 1) 0 0 0 0 (q % sp) (22 + n), (s + 1, q % sp), true, true) := by
  unfold putM; rw [if_pos h, if_pos hg]
theorem putM_fit {sp st sz s u0 u1 u2 u3 q n : Int} (h : okP sp st sz s u0 u1 u2 u3 q n = true) (hg : ¬ sz < pk u0 u1 u2 u3 (q % sp) + (22 + n)) :
    putM sp st sz s u0 u1 u2 u3 q n = (addU s u0 u1 u2 u3 (q % sp) (22 + n), (s, q % sp), false, true) := by
  unfold putM; rw [if_pos h, if_neg hg]

def PutRes (sp st sz s u0 u1 u2 u3 q n : Int) (w : World) (e : Ending) (w' : World) : Prop :=
  ∃ f0 f1 f2 f3 f4 p0 p1 nx ok, e = .returned (.tuple #[.agg #[.int .i64 f0, .int .i64 f1, .int .i64 f2, .int .i64 f3, .int .i64 f4], .agg #[.int .i64 p0, .int .i64 p1], .bool nx, .bool ok]) ∧
    putM sp st sz s u0 u1 u2 u3 q n = ((f0, f1, f2, f3, f4), (p0, p1), nx, ok) ∧ Below w.heap.size w w'

theorem put_any (sp st sz s u0 u1 u2 u3 q n : Int) (w : World) :
    Calls Try.prog 21 #[.agg #[.int .i64 sp, .int .i64 st, .int .i64 sz], .agg #[.int .i64 s, .int .i64 u0, .int .i64 u1, .int .i64 u2, .int .i64 u3], .int .i64 q, .int .i64 n] w (PutRes sp st sz s u0 u1 u2 u3 q n w) := by
  cases h : okP sp st sz s u0 u1 u2 u3 q n
  · have e0 := putM_no h
    have fin : ∀ e w', (e = Ending.returned (.tuple #[.agg #[.int .i64 0, .int .i64 0, .int .i64 0, .int .i64 0, .int .i64 0], .agg #[.int .i64 0, .int .i64 0], .bool false, .bool false]) ∧ Below w.heap.size w w') → PutRes sp st sz s u0 u1 u2 u3 q n w e w' :=
      fun e w' ⟨h1, h2⟩ => ⟨_, _, _, _, _, _, _, _, _, h1, e0, h2⟩
    rcases okP_no h with hr | ⟨hr, hf⟩ | ⟨hr, hf, hq⟩
    · exact (put_no1 _ _ _ _ _ _ _ _ _ _ _ (Lib.hid hr)).mono fin
    · exact (put_no2 _ _ _ _ _ _ _ _ _ _ _ (Lib.hid hr) (Lib.hid hf)).mono fin
    · rcases hq with hq | ⟨h1, hq⟩ | ⟨h1, h2, hq⟩ | ⟨h1, h2, h3, hq⟩
      · exact (put_no3 _ _ _ _ _ _ _ _ _ _ _ (Lib.hid hr) (Lib.hid hf) (decide_eq_true hq)).mono fin
      · exact (put_no4 _ _ _ _ _ _ _ _ _ _ _ (Lib.hid hr) (Lib.hid hf) (decide_eq_false h1) (decide_eq_true hq)).mono fin
      · exact (put_no5 _ _ _ _ _ _ _ _ _ _ _ (Lib.hid hr) (Lib.hid hf) (decide_eq_false h1) (decide_eq_false h2) (decide_eq_true hq)).mono fin
      · exact (put_no6 _ _ _ _ _ _ _ _ _ _ _ (Lib.hid hr) (Lib.hid hf) (decide_eq_false h1) (decide_eq_false h2) (decide_eq_false h3) (decide_eq_true hq)).mono fin
  · have hy := okP_yes h
    rcases mod_cases (q := q) hy.2.1.1 hy.2.1.2 with hm | hm | hm | hm
    · by_cases hg : sz < u0 + (22 + n)
      · have e0 := putM_next h (by rw [hm]; exact hg)
        rw [hm] at e0
        exact (put_next0 _ _ _ _ _ _ _ _ _ _ _ h hm hg).mono fun e w' ⟨h1, h2⟩ => ⟨_, _, _, _, _, _, _, _, _, h1, by rw [e0]; simp [addU], h2⟩
      · have e0 := putM_fit h (by rw [hm]; exact hg)
        rw [hm] at e0
        exact (put_fit0 _ _ _ _ _ _ _ _ _ _ _ h hm hg).mono fun e w' ⟨h1, h2⟩ => ⟨_, _, _, _, _, _, _, _, _, h1, by rw [e0]; simp [addU], h2⟩
    · by_cases hg : sz < u1 + (22 + n)
      · have e0 := putM_next h (by rw [hm]; exact hg)
        rw [hm] at e0
        exact (put_next1 _ _ _ _ _ _ _ _ _ _ _ h hm hg).mono fun e w' ⟨h1, h2⟩ => ⟨_, _, _, _, _, _, _, _, _, h1, by rw [e0]; simp [addU], h2⟩
      · have e0 := putM_fit h (by rw [hm]; exact hg)
        rw [hm] at e0
        exact (put_fit1 _ _ _ _ _ _ _ _ _ _ _ h hm hg).mono fun e w' ⟨h1, h2⟩ => ⟨_, _, _, _, _, _, _, _, _, h1, by rw [e0]; simp [addU], h2⟩
    · by_cases hg : sz < u2 + (22 + n)
      · have e0 := putM_next h (by rw [hm]; exact hg)
        rw [hm] at e0
        exact (put_next2 _ _ _ _ _ _ _ _ _ _ _ h hm hg).mono fun e w' ⟨h1, h2⟩ => ⟨_, _, _, _, _, _, _, _, _, h1, by rw [e0]; simp [addU], h2⟩
      · have e0 := putM_fit h (by rw [hm]; exact hg)
        rw [hm] at e0
        exact (put_fit2 _ _ _ _ _ _ _ _ _ _ _ h hm hg).mono fun e w' ⟨h1, h2⟩ => ⟨_, _, _, _, _, _, _, _, _, h1, by rw [e0]; simp [addU], h2⟩
    · by_cases hg : sz < u3 + (22 + n)
      · have e0 := putM_next h (by rw [hm]; exact hg)
        rw [hm] at e0
        exact (put_next3 _ _ _ _ _ _ _ _ _ _ _ h hm hg).mono fun e w' ⟨h1, h2⟩ => ⟨_, _, _, _, _, _, _, _, _, h1, by rw [e0]; simp [addU], h2⟩
      · have e0 := putM_fit h (by rw [hm]; exact hg)
        rw [hm] at e0
        exact (put_fit3 _ _ _ _ _ _ _ _ _ _ _ h hm hg).mono fun e w' ⟨h1, h2⟩ => ⟨_, _, _, _, _, _, _, _, _, h1, by rw [e0]; simp [addU], h2⟩



set_option maxHeartbeats 1000000 in
theorem rput_any (sp st sz s u0 u1 u2 u3 q n : Int) (w : World) :
    Calls Try.prog 8 #[.agg #[.int .i64 sp, .int .i64 st, .int .i64 sz], .agg #[.int .i64 s, .int .i64 u0, .int .i64 u1, .int .i64 u2, .int .i64 u3], .int .i64 q, .int .i64 n] w fun e w' =>
      ∃ f0 f1 f2 f3 f4 p0 p1 nx ok, e = .returned (.tuple #[.agg #[.int .i64 f0, .int .i64 f1, .int .i64 f2, .int .i64 f3, .int .i64 f4], .agg #[.int .i64 p0, .int .i64 p1], .bool nx]) ∧
        putM sp st sz s u0 u1 u2 u3 q n = ((f0, f1, f2, f3, f4), (p0, p1), nx, ok) ∧ Below w.heap.size w w' := by
  go_enter Try.func8, Try.ntmps8
  go_wp2_with fail
  refine (put_any _ _ _ _ _ _ _ _ _ _ _).mono ?_
  rintro e w1 ⟨f0, f1, f2, f3, f4, p0, p1, nx, ok, rfl, hM, hb⟩
  have HM := Lib.hid hM
  clear hM
  have hz : w.heap.size + 1 + 1 + 1 + 1 ≤ w1.heap.size := by have := hb.size; simpa using this
  have k2 : w1.heap[w.heap.size + 1 + 1]? = some (.cells #[.int .i64 0, .int .i64 0, .int .i64 0, .int .i64 0, .int .i64 0] 26 (0, 0)) := by
    rw [hb.block _ (by simp), blk_old (by simp)]
    exact blk_new (by simp)
  have k3 : w1.heap[w.heap.size + 1 + 1 + 1]? = some (.cells #[.int .i64 0, .int .i64 0] 28 (0, 0)) := by
    rw [hb.block _ (by simp)]
    exact blk_new (by simp)
  have c2 := blk_cell k2
  have c3 := blk_cell k3
  have g2 := blk_frozen k2
  have g3 := blk_frozen k3
  have hb' : Below w.heap.size w w1 := Below.trans (by repeat (first | exact Below.refl _ _ | refine Below.alloc ?_ (by simp <;> omega) _)) (hb.mono (by simp <;> omega))
  have hz0 : w.heap.size < w1.heap.size := by omega
  have hz1 : w.heap.size + 1 < w1.heap.size := by omega
  have hz2 : w.heap.size + 1 + 1 < w1.heap.size := by omega
  have hz3 : w.heap.size + 1 + 1 + 1 < w1.heap.size := by omega
  clear k2 k3 hb hz
  go_wp2_with fail
  go_region
  go_wp2_with fail
  refine bodyPost_ret (v := .tuple #[.agg #[.int .i64 f0, .int .i64 f1, .int .i64 f2, .int .i64 f3, .int .i64 f4], .agg #[.int .i64 p0, .int .i64 p1], .bool nx]) (by simp [results, Try.results8, go_sem, c2, c3, hz1, hz2, hz3]) rfl ⟨_, _, _, _, _, _, _, _, _, rfl, HM.out, ?_⟩
  repeat (first | with_reducible exact hb' | with_reducible refine Below.drew ?_ | with_reducible refine Below.setCell ?_ (by simp <;> omega) _ | with_reducible refine Below.alloc ?_ (by simp <;> omega) _)
end Go.Proofs.Ytidcgbegpmihaaa
