/- The law RingNeeds: two rows; the walk as far as the rows are built. -/
import Derived.Test.YtidcgbegpmihaaaRingM
import Derived.Test.YtidcgbegpmihaaaRingN
import Derived.Deep.DeepCutAuto
namespace Go.Proofs.Ytidcgbegpmihaaa
open Go.RowKit

theorem runM_append {sp st sz : Int} : ∀ {l : List Int} {f : Fil} {q : Int} {g : Fil} {ps : List (Int × Int)} {c : Nat} {m : List Int} {g' : Fil} {ps' : List (Int × Int)} {c' : Nat},
    runM sp st sz f q l = some (g, ps, c) → runM sp st sz g (q + l.length) m = some (g', ps', c') → ∃ ps'', runM sp st sz f q (l ++ m) = some (g', ps'', c + c')
  | [], f, q, g, ps, c, m, g', ps', c', h, h' => by
    simp [runM] at h
    obtain ⟨rfl, rfl, rfl⟩ := h
    exact ⟨ps', by simpa using h'⟩
  | a :: l, (s, u0, u1, u2, u3), q, g, ps, c, m, g', ps', c', h, h' => by
    simp only [runM] at h
    simp only [List.cons_append, runM]
    generalize putM sp st sz s u0 u1 u2 u3 q a = x at h ⊢
    obtain ⟨g1, p, nx, ok⟩ := x
    cases ok
    · simp at h
    · simp only [if_true] at h ⊢
      cases hr : runM sp st sz g1 (q + 1) l with
      | none => rw [hr] at h; simp at h
      | some x =>
        obtain ⟨h1, ps1, c1⟩ := x
        rw [hr] at h
        simp only [Option.some.injEq, Prod.mk.injEq] at h
        obtain ⟨rfl, rfl, rfl⟩ := h
        have e : q + ((a :: l).length : Int) = q + 1 + (l.length : Int) := by simp only [List.length_cons]; push_cast; omega
        rw [e] at h'
        obtain ⟨ps2, e2⟩ := runM_append hr h'
        rw [e2]
        exact ⟨p :: ps2, by simp; omega⟩

/-- What the law asks of two rows. -/
theorem needs_two {sp st sz : Int} (hr : rightR sp st sz = true) {l m : List Int} (hl : l.length ≤ 80) (hm : m.length ≤ 80) (h1 : ∀ x ∈ l, 1 ≤ x ∧ x ≤ 90) (h2 : ∀ x ∈ m, 1 ≤ x ∧ x ≤ 90) {t : Nat} (ht : t ≤ 1048576) (ht1 : 1 ≤ t)
    {s u0 u1 u2 u3 : Int} {ps : List (Int × Int)} {c : Nat} (hrun : runM sp st sz zF t l = some ((s, u0, u1, u2, u3), ps, c)) :
    ∃ c' : Nat, needM sp st sz zF t l = c ∧ needM sp st sz (s, u0, u1, u2, u3) ((t : Int) + l.length) m = c' ∧ needM sp st sz zF t (l ++ m) = (c : Int) + c' ∧ s = c ∧ c ≤ 80 ∧ c' ≤ 80 := by
  have hsz := rightR_yes hr
  obtain ⟨s', v0, v1, v2, v3, ps0, c0, r1, r2, r3⟩ := runM_total hr l 0 0 0 0 0 (t : Int) 0 (by unfold GoodF; omega) (by omega) (by omega) (by omega) h1
  have r1' : runM sp st sz zF t l = some ((s', v0, v1, v2, v3), ps0, c0) := r1
  rw [hrun] at r1'
  simp only [Option.some.injEq, Prod.mk.injEq] at r1'
  obtain ⟨⟨rfl, rfl, rfl, rfl, rfl⟩, rfl, rfl⟩ := r1'
  obtain ⟨s2, w0, w1, w2, w3, ps2, c2, q1, q2, q3⟩ := runM_total hr m s u0 u1 u2 u3 ((t : Int) + l.length) (0 + l.length) r2 (by omega) (by omega) (by omega) h2
  obtain ⟨ps3, q4⟩ := runM_append hrun q1
  refine ⟨c2, ?_, ?_, ?_, by omega, ?_, ?_⟩
  · unfold needM; rw [hrun, if_pos (by omega)]
  · unfold needM; rw [q1, if_pos (by omega)]
  · unfold needM; rw [q4, if_pos (by omega)]; push_cast; rfl
  · have := (runM_length hrun).2; omega
  · have := (runM_length q1).2; omega
end Go.Proofs.Ytidcgbegpmihaaa
