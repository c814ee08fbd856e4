/- Scratch. -/
import Derived.Test.YtidcgbegpmihaaaRingC
import Derived.Test.YtidcgbegpmihaaaRefA
import Derived.Test.YtidcgbegpmihaaaRefB
namespace Go.Proofs.Ytidcgbegpmihaaa
open Go.RowKit

theorem dec_yes {p : Prop} [Decidable p] (h : p) : decide p = true := decide_eq_true h
theorem dec_no {p : Prop} [Decidable p] (h : ¬ p) : decide p = false := decide_eq_false h

theorem refput_any (sp st sz s u0 u1 u2 u3 q n : Int) (w : World) :
    Calls Try.prog 9 #[.agg #[.int .i64 sp, .int .i64 st, .int .i64 sz], .agg #[.int .i64 s, .int .i64 u0, .int .i64 u1, .int .i64 u2, .int .i64 u3], .int .i64 q, .int .i64 n] w (PutRes sp st sz s u0 u1 u2 u3 q n w) := by
  cases h : okP sp st sz s u0 u1 u2 u3 q n
  · have e0 := putM_no h
    have fin : ∀ e w', (e = Ending.returned (.tuple #[.agg #[.int .i64 0, .int .i64 0, .int .i64 0, .int .i64 0, .int .i64 0], .agg #[.int .i64 0, .int .i64 0], .bool false, .bool false]) ∧ Below w.heap.size w w') → PutRes sp st sz s u0 u1 u2 u3 q n w e w' :=
      fun e w' ⟨h1, h2⟩ => ⟨_, _, _, _, _, _, _, _, _, h1, e0, h2⟩
    cases hr : rightR sp st sz
    · exact (rp_no1 _ _ _ _ _ _ _ _ _ _ _ (Lib.hid hr)).mono fin
    · by_cases c1 : s < 0
      · exact (rp_no2 _ _ _ _ _ _ _ _ _ _ _ (Lib.hid hr) (dec_yes c1)).mono fin
      by_cases c2 : 1073741824 ≤ s
      · exact (rp_no3 _ _ _ _ _ _ _ _ _ _ _ (Lib.hid hr) (dec_no c1) (dec_yes c2)).mono fin
      by_cases c3 : q < 1
      · exact (rp_no4 _ _ _ _ _ _ _ _ _ _ _ (Lib.hid hr) (dec_no c1) (dec_no c2) (dec_yes c3)).mono fin
      by_cases c4 : 1099511627776 < q
      · exact (rp_no5 _ _ _ _ _ _ _ _ _ _ _ (Lib.hid hr) (dec_no c1) (dec_no c2) (dec_no c3) (dec_yes c4)).mono fin
      by_cases c5 : n < 1
      · exact (rp_no6 _ _ _ _ _ _ _ _ _ _ _ (Lib.hid hr) (dec_no c1) (dec_no c2) (dec_no c3) (dec_no c4) (dec_yes c5)).mono fin
      by_cases c6 : 90 < n
      · exact (rp_no7 _ _ _ _ _ _ _ _ _ _ _ (Lib.hid hr) (dec_no c1) (dec_no c2) (dec_no c3) (dec_no c4) (dec_no c5) (dec_yes c6)).mono fin
      have D1 := dec_no c1
      have D2 := dec_no c2
      have D3 := dec_no c3
      have D4 := dec_no c4
      have D5 := dec_no c5
      have D6 := dec_no c6
      by_cases a0 : u0 < 0
      · exact (rp_bad00 _ _ _ _ _ _ _ _ _ _ _ (Lib.hid hr) D1 D2 D3 D4 D5 D6 (dec_yes a0)).mono fin
      by_cases b0 : sz < u0
      · exact (rp_bad01 _ _ _ _ _ _ _ _ _ _ _ (Lib.hid hr) D1 D2 D3 D4 D5 D6 (dec_no a0) (dec_yes b0)).mono fin
      by_cases a1 : u1 < 0
      · exact (rp_bad10 _ _ _ _ _ _ _ _ _ _ _ (Lib.hid hr) D1 D2 D3 D4 D5 D6 (dec_no a0) (dec_no b0) (dec_yes a1)).mono fin
      by_cases b1 : sz < u1
      · exact (rp_bad11 _ _ _ _ _ _ _ _ _ _ _ (Lib.hid hr) D1 D2 D3 D4 D5 D6 (dec_no a0) (dec_no b0) (dec_no a1) (dec_yes b1)).mono fin
      by_cases a2 : u2 < 0
      · exact (rp_bad20 _ _ _ _ _ _ _ _ _ _ _ (Lib.hid hr) D1 D2 D3 D4 D5 D6 (dec_no a0) (dec_no b0) (dec_no a1) (dec_no b1) (dec_yes a2)).mono fin
      by_cases b2 : sz < u2
      · exact (rp_bad21 _ _ _ _ _ _ _ _ _ _ _ (Lib.hid hr) D1 D2 D3 D4 D5 D6 (dec_no a0) (dec_no b0) (dec_no a1) (dec_no b1) (dec_no a2) (dec_yes b2)).mono fin
      by_cases a3 : u3 < 0
      · exact (rp_bad30 _ _ _ _ _ _ _ _ _ _ _ (Lib.hid hr) D1 D2 D3 D4 D5 D6 (dec_no a0) (dec_no b0) (dec_no a1) (dec_no b1) (dec_no a2) (dec_no b2) (dec_yes a3)).mono fin
      by_cases b3 : sz < u3
      · exact (rp_bad31 _ _ _ _ _ _ _ _ _ _ _ (Lib.hid hr) D1 D2 D3 D4 D5 D6 (dec_no a0) (dec_no b0) (dec_no a1) (dec_no b1) (dec_no a2) (dec_no b2) (dec_no a3) (dec_yes b3)).mono fin
      exfalso
      have : okP sp st sz s u0 u1 u2 u3 q n = true := by
        simp only [okP, okF, okU, hr, Bool.true_and, Bool.and_eq_true, decide_eq_true_eq]
        omega
      rw [this] at h
      cases h
  · have hy := okP_yes h
    rcases mod_cases (q := q) hy.2.1.1 hy.2.1.2 with hm | hm | hm | hm
    · by_cases hg : sz < u0 + (22 + n)
      · have e0 := putM_next h (by rw [hm]; exact hg)
        rw [hm] at e0
        exact (rp_next0 _ _ _ _ _ _ _ _ _ _ _ h hm (by omega)).mono fun e w' ⟨h1, h2⟩ => ⟨_, _, _, _, _, _, _, _, _, h1, by rw [e0]; simp [addU, Int.add_comm], h2⟩
      · have e0 := putM_fit h (by rw [hm]; exact hg)
        rw [hm] at e0
        exact (rp_fit0 _ _ _ _ _ _ _ _ _ _ _ h hm (by omega)).mono fun e w' ⟨h1, h2⟩ => ⟨_, _, _, _, _, _, _, _, _, h1, by rw [e0]; simp [addU, Int.add_comm], h2⟩
    · by_cases hg : sz < u1 + (22 + n)
      · have e0 := putM_next h (by rw [hm]; exact hg)
        rw [hm] at e0
        exact (rp_next1 _ _ _ _ _ _ _ _ _ _ _ h hm (by omega)).mono fun e w' ⟨h1, h2⟩ => ⟨_, _, _, _, _, _, _, _, _, h1, by rw [e0]; simp [addU, Int.add_comm], h2⟩
      · have e0 := putM_fit h (by rw [hm]; exact hg)
        rw [hm] at e0
        exact (rp_fit1 _ _ _ _ _ _ _ _ _ _ _ h hm (by omega)).mono fun e w' ⟨h1, h2⟩ => ⟨_, _, _, _, _, _, _, _, _, h1, by rw [e0]; simp [addU, Int.add_comm], h2⟩
    · by_cases hg : sz < u2 + (22 + n)
      · have e0 := putM_next h (by rw [hm]; exact hg)
        rw [hm] at e0
        exact (rp_next2 _ _ _ _ _ _ _ _ _ _ _ h hm (by omega)).mono fun e w' ⟨h1, h2⟩ => ⟨_, _, _, _, _, _, _, _, _, h1, by rw [e0]; simp [addU, Int.add_comm], h2⟩
      · have e0 := putM_fit h (by rw [hm]; exact hg)
        rw [hm] at e0
        exact (rp_fit2 _ _ _ _ _ _ _ _ _ _ _ h hm (by omega)).mono fun e w' ⟨h1, h2⟩ => ⟨_, _, _, _, _, _, _, _, _, h1, by rw [e0]; simp [addU, Int.add_comm], h2⟩
    · by_cases hg : sz < u3 + (22 + n)
      · have e0 := putM_next h (by rw [hm]; exact hg)
        rw [hm] at e0
        exact (rp_next3 _ _ _ _ _ _ _ _ _ _ _ h hm (by omega)).mono fun e w' ⟨h1, h2⟩ => ⟨_, _, _, _, _, _, _, _, _, h1, by rw [e0]; simp [addU, Int.add_comm], h2⟩
      · have e0 := putM_fit h (by rw [hm]; exact hg)
        rw [hm] at e0
        exact (rp_fit3 _ _ _ _ _ _ _ _ _ _ _ h hm (by omega)).mono fun e w' ⟨h1, h2⟩ => ⟨_, _, _, _, _, _, _, _, _, h1, by rw [e0]; simp [addU, Int.add_comm], h2⟩

def numM (sp st sz ps po : Int) : Int := if rightR sp st sz = true ∧ 0 ≤ ps ∧ ps ≤ 1073741824 ∧ 0 ≤ po ∧ po < sp then ps % st * sp + po else 0
theorem numM_no {sp st sz ps po : Int} (h : ¬ (rightR sp st sz = true ∧ 0 ≤ ps ∧ ps ≤ 1073741824 ∧ 0 ≤ po ∧ po < sp)) : numM sp st sz ps po = 0 := if_neg h
theorem numM_yes {sp st sz ps po : Int} (h : rightR sp st sz = true ∧ 0 ≤ ps ∧ ps ≤ 1073741824 ∧ 0 ≤ po ∧ po < sp) : numM sp st sz ps po = ps % st * sp + po := if_pos h
theorem num_bd {a b c x : Int} (h1 : 0 ≤ a) (h2 : a < 8) (h3 : 1 ≤ b) (h4 : b ≤ 4) (_h5 : 0 ≤ c) (_h6 : c < b) (hx : x = a * b) : 0 ≤ x ∧ x ≤ 28 := by
  subst hx
  rcases (by omega : b = 1 ∨ b = 2 ∨ b = 3 ∨ b = 4) with rfl | rfl | rfl | rfl <;> omega
end Go.Proofs.Ytidcgbegpmihaaa
