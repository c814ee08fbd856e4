/- Plain laws on rows of entries: they are put one by one; what each one does. -/
import Derived.Test.YtidcgbegpmihaaaRingK
namespace Go.Proofs.Ytidcgbegpmihaaa
open Go.RowKit

/-- A fill that may be, of so many entries. -/
def GoodF (sz s u0 u1 u2 u3 : Int) (k : Nat) : Prop := 0 ≤ s ∧ s ≤ k ∧ 0 ≤ u0 ∧ u0 ≤ sz ∧ 0 ≤ u1 ∧ u1 ≤ sz ∧ 0 ≤ u2 ∧ u2 ≤ sz ∧ 0 ≤ u3 ∧ u3 ≤ sz

theorem runM_take {sp st sz : Int} : ∀ {l : List Int} {f : Fil} {q : Int} {g : Fil} {ps : List (Int × Int)} {c : Nat} (i : Nat), runM sp st sz f q l = some (g, ps, c) → ∃ g' c', runM sp st sz f q (l.take i) = some (g', ps.take i, c')
  | [], f, q, g, ps, c, i, h => by
    simp [runM] at h
    obtain ⟨rfl, rfl, rfl⟩ := h
    exact ⟨f, 0, by simp [runM]⟩
  | a :: l, f, q, g, ps, c, 0, h => ⟨f, 0, by simp [runM]⟩
  | a :: l, (s, u0, u1, u2, u3), q, g, ps, c, i + 1, h => by
    simp only [runM] at h
    simp only [List.take_succ_cons, runM]
    generalize putM sp st sz s u0 u1 u2 u3 q a = x at h ⊢
    obtain ⟨g', p, nx, ok⟩ := x
    cases ok
    · simp at h
    · simp only [if_true] at h ⊢
      cases hr : runM sp st sz g' (q + 1) l with
      | none => rw [hr] at h; simp at h
      | some x =>
        obtain ⟨h', ps', c'⟩ := x
        obtain ⟨g2, c2, e2⟩ := runM_take i hr
        rw [hr] at h
        simp only [Option.some.injEq, Prod.mk.injEq] at h
        obtain ⟨_, rfl, rfl⟩ := h
        rw [e2]
        exact ⟨g2, c2 + (if nx then 1 else 0), by simp⟩

theorem put_two {sp st sz s u0 u1 u2 u3 q n : Int} {k : Nat} (hr : rightR sp st sz = true) (hf : GoodF sz s u0 u1 u2 u3 k) (hk : k ≤ 1000) (q1 : 1 ≤ q) (q2 : q ≤ 1099511627776) (n1 : 1 ≤ n) (n2 : n ≤ 90) :
    (pk u0 u1 u2 u3 (q % sp) + (22 + n) ≤ sz ∧ putM sp st sz s u0 u1 u2 u3 q n = (addU s u0 u1 u2 u3 (q % sp) (22 + n), (s, q % sp), false, true)) ∨
    (sz < pk u0 u1 u2 u3 (q % sp) + (22 + n) ∧ putM sp st sz s u0 u1 u2 u3 q n = (addU (s + 1) 0 0 0 0 (q % sp) (22 + n), (s + 1, q % sp), true, true)) := by
  have hok : okP sp st sz s u0 u1 u2 u3 q n = true := by
    obtain ⟨a, b, c⟩ := hf
    simp only [okP, okF, okU, hr, Bool.true_and, Bool.and_eq_true, decide_eq_true_eq]
    omega
  by_cases h : sz < pk u0 u1 u2 u3 (q % sp) + (22 + n)
  · exact .inr ⟨h, putM_next hok h⟩
  · exact .inl ⟨by omega, putM_fit hok h⟩

theorem good_fit {sz s u0 u1 u2 u3 o x : Int} {k : Nat} (hf : GoodF sz s u0 u1 u2 u3 k) (hx : 0 ≤ x) (h : pk u0 u1 u2 u3 o + x ≤ sz) :
    ∃ v0 v1 v2 v3, addU s u0 u1 u2 u3 o x = (s, v0, v1, v2, v3) ∧ GoodF sz s v0 v1 v2 v3 (k + 1) := by
  refine ⟨_, _, _, _, rfl, ?_⟩
  unfold pk at h
  unfold GoodF at *
  push_cast
  refine ⟨by omega, by omega, ?_, ?_, ?_, ?_, ?_, ?_, ?_, ?_⟩ <;> (split <;> split at h <;> omega)
theorem good_next {sz s u0 u1 u2 u3 o x : Int} {k : Nat} (hf : GoodF sz s u0 u1 u2 u3 k) (hx : 0 ≤ x) (h : x ≤ sz) :
    ∃ v0 v1 v2 v3, addU (s + 1) 0 0 0 0 o x = (s + 1, v0, v1, v2, v3) ∧ GoodF sz (s + 1) v0 v1 v2 v3 (k + 1) := by
  refine ⟨_, _, _, _, rfl, ?_⟩
  unfold GoodF at *
  push_cast
  refine ⟨by omega, by omega, ?_, ?_, ?_, ?_, ?_, ?_, ?_, ?_⟩ <;> (split <;> omega)

/-- A row of right sizes from a right fill is put whole. -/
theorem runM_total {sp st sz : Int} (hr : rightR sp st sz = true) : ∀ (l : List Int) (s u0 u1 u2 u3 q : Int) (k : Nat), GoodF sz s u0 u1 u2 u3 k → k + l.length ≤ 1000 → 1 ≤ q → q + l.length ≤ 1099511627776 → (∀ x ∈ l, 1 ≤ x ∧ x ≤ 90) →
    ∃ s' v0 v1 v2 v3 ps c, runM sp st sz (s, u0, u1, u2, u3) q l = some ((s', v0, v1, v2, v3), ps, c) ∧ GoodF sz s' v0 v1 v2 v3 (k + l.length) ∧ s' = s + c
  | [], s, u0, u1, u2, u3, q, k, hf, _, _, _, _ => ⟨s, u0, u1, u2, u3, [], 0, rfl, by simpa using hf, by simp⟩
  | x :: l, s, u0, u1, u2, u3, q, k, hf, hk, q1, q2, hl => by
    have hx := hl x (by simp)
    have hsz := rightR_yes hr
    simp only [List.length_cons] at hk q2
    push_cast at q2
    rcases put_two hr hf (by omega) q1 (by omega) hx.1 hx.2 with ⟨h1, h2⟩ | ⟨h1, h2⟩
    · obtain ⟨v0, v1, v2, v3, e, g⟩ := good_fit hf (by omega) h1
      obtain ⟨s', w0, w1, w2, w3, ps, c, r1, r2, r3⟩ := runM_total hr l s v0 v1 v2 v3 (q + 1) (k + 1) g (by omega) (by omega) (by omega) (fun y hy => hl y (by simp [hy]))
      refine ⟨s', w0, w1, w2, w3, (s, q % sp) :: ps, c, ?_, ?_, r3⟩
      · simp only [runM, h2, e, r1]
        rfl
      · rw [List.length_cons, Nat.add_comm l.length 1, ← Nat.add_assoc]; exact r2
    · obtain ⟨v0, v1, v2, v3, e, g⟩ := good_next (o := q % sp) hf (by omega : 0 ≤ 22 + x) (by omega)
      obtain ⟨s', w0, w1, w2, w3, ps, c, r1, r2, r3⟩ := runM_total hr l (s + 1) v0 v1 v2 v3 (q + 1) (k + 1) g (by omega) (by omega) (by omega) (fun y hy => hl y (by simp [hy]))
      refine ⟨s', w0, w1, w2, w3, (s + 1, q % sp) :: ps, c + 1, ?_, ?_, by omega⟩
      · simp only [runM, h2, e, r1]
        rfl
      · rw [List.length_cons, Nat.add_comm l.length 1, ← Nat.add_assoc]; exact r2

/-- The row of what lies in each object. -/
def uL (P : Nat) (u0 u1 u2 u3 : Int) : List Int := [u0, u1, u2, u3].take P
theorem uL_get {P o : Nat} (p4 : P ≤ 4) (ho : o < P) (u0 u1 u2 u3 : Int) : (uL P u0 u1 u2 u3)[o]? = some (pk u0 u1 u2 u3 o) := by
  unfold uL pk
  rw [List.getElem?_take_of_lt ho]
  rcases (by omega : o = 0 ∨ o = 1 ∨ o = 2 ∨ o = 3) with rfl | rfl | rfl | rfl <;> rfl
theorem uL_set {P o : Nat} (p4 : P ≤ 4) (ho : o < P) (s u0 u1 u2 u3 x : Int) : ∃ v0 v1 v2 v3, addU s u0 u1 u2 u3 o x = (s, v0, v1, v2, v3) ∧ (uL P u0 u1 u2 u3).set o (pk u0 u1 u2 u3 o + x) = uL P v0 v1 v2 v3 ∧ pk v0 v1 v2 v3 o = pk u0 u1 u2 u3 o + x := by
  refine ⟨_, _, _, _, rfl, ?_, ?_⟩
  · unfold uL pk
    rcases (by omega : P = 1 ∨ P = 2 ∨ P = 3 ∨ P = 4) with rfl | rfl | rfl | rfl <;> rcases (by omega : o = 0 ∨ o = 1 ∨ o = 2 ∨ o = 3) with rfl | rfl | rfl | rfl <;> first | (exfalso; omega) | simp
  · unfold pk
    rcases (by omega : o = 0 ∨ o = 1 ∨ o = 2 ∨ o = 3) with rfl | rfl | rfl | rfl <;> simp
theorem uL_zero {P : Nat} (p4 : P ≤ 4) : uL P 0 0 0 0 = List.replicate P 0 := by
  rcases (by omega : P = 0 ∨ P = 1 ∨ P = 2 ∨ P = 3 ∨ P = 4) with rfl | rfl | rfl | rfl | rfl <;> rfl
theorem uL_length {P : Nat} (p4 : P ≤ 4) (u0 u1 u2 u3 : Int) : (uL P u0 u1 u2 u3).length = P := by
  unfold uL; rw [List.length_take]; simp; omega
end Go.Proofs.Ytidcgbegpmihaaa
