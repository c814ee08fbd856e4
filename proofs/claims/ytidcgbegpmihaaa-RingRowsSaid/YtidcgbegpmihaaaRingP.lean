/- Rows of entries, one behind the other: plain laws, no program. Conditions: those that each theorem states. -/
import Derived.Test.YtidcgbegpmihaaaRingD
namespace Go.Proofs.Ytidcgbegpmihaaa
open Go.RowKit

/-- Behind a row of entries: how full the last set is, their places, how many sets they began. -/
def runM (sp st sz : Int) : Fil → Int → List Int → Option (Fil × List (Int × Int) × Nat)
  | f, _, [] => some (f, [], 0)
  | (s, u0, u1, u2, u3), q, n :: r =>
    match putM sp st sz s u0 u1 u2 u3 q n with
    | (g, p, nx, ok) => if ok then (match runM sp st sz g (q + 1) r with | some (h, ps, c) => some (h, p :: ps, c + (if nx then 1 else 0)) | none => none) else none

theorem runM_snoc (sp st sz : Int) : ∀ (l : List Int) (f : Fil) (q n : Int),
    runM sp st sz f q (l ++ [n]) = match runM sp st sz f q l with
      | some ((s, u0, u1, u2, u3), ps, c) => (match putM sp st sz s u0 u1 u2 u3 (q + l.length) n with | (g, p, nx, ok) => if ok then some (g, ps ++ [p], c + (if nx then 1 else 0)) else none)
      | none => none
  | [], (s, u0, u1, u2, u3), q, n => by
    simp only [List.nil_append, runM, List.length_nil, Int.natCast_zero, Int.add_zero]
  | a :: l, (s, u0, u1, u2, u3), q, n => by
    simp only [List.cons_append, runM, List.length_cons]
    rcases putM sp st sz s u0 u1 u2 u3 q a with ⟨g, p, nx, ok⟩
    cases ok
    · simp
    · simp only [if_true]
      rw [runM_snoc sp st sz l g (q + 1) n]
      rcases runM sp st sz g (q + 1) l with _ | ⟨⟨t, v0, v1, v2, v3⟩, ps, c⟩
      · rfl
      · have e : q + 1 + (l.length : Int) = q + ((l.length + 1 : Nat) : Int) := by omega
        simp only [e]
        rcases putM sp st sz t v0 v1 v2 v3 (q + ((l.length + 1 : Nat) : Int)) n with ⟨g', p', nx', ok'⟩
        cases ok' <;> cases nx <;> cases nx' <;> simp

theorem runM_none (sp st sz : Int) (f : Fil) (q : Int) (l r : List Int) (h : runM sp st sz f q l = none) : runM sp st sz f q (l ++ r) = none := by
  induction r generalizing l with
  | nil => simpa using h
  | cons x r ih =>
    have e : l ++ x :: r = (l ++ [x]) ++ r := by simp
    rw [e]
    refine ih _ ?_
    rw [runM_snoc, h]
theorem runM_step {sp st sz : Int} {f : Fil} {q : Int} {l : List Int} {k : Nat} {x : Int} (hx : l[k]? = some x) {s u0 u1 u2 u3 : Int} {ps : List (Int × Int)} {c : Nat}
    (h : runM sp st sz f q (l.take k) = some ((s, u0, u1, u2, u3), ps, c)) {g : Fil} {p : Int × Int} {nx : Bool} (hp : putM sp st sz s u0 u1 u2 u3 (q + k) x = (g, p, nx, true)) :
    runM sp st sz f q (l.take (k + 1)) = some (g, ps ++ [p], c + (if nx then 1 else 0)) := by
  have hk := (List.getElem?_eq_some_iff.1 hx).1
  rw [take_snoc hx, runM_snoc, h]
  have e : (l.take k).length = k := by rw [List.length_take]; omega
  simp only [e, hp, if_true]
theorem runM_stop {sp st sz : Int} {f : Fil} {q : Int} {l : List Int} {k : Nat} {x : Int} (hx : l[k]? = some x) {s u0 u1 u2 u3 : Int} {ps : List (Int × Int)} {c : Nat}
    (h : runM sp st sz f q (l.take k) = some ((s, u0, u1, u2, u3), ps, c)) {g : Fil} {p : Int × Int} {nx : Bool} (hp : putM sp st sz s u0 u1 u2 u3 (q + k) x = (g, p, nx, false)) :
    runM sp st sz f q l = none := by
  have hk := (List.getElem?_eq_some_iff.1 hx).1
  have h1 : runM sp st sz f q (l.take (k + 1)) = none := by
    rw [take_snoc hx, runM_snoc, h]
    have e : (l.take k).length = k := by rw [List.length_take]; omega
    simp only [e, hp]
    rfl
  have := runM_none sp st sz f q _ (l.drop (k + 1)) h1
  rwa [List.take_append_drop] at this

def zF : Fil := (0, 0, 0, 0, 0)
def setsM (sp st sz at_ : Int) (l : List Int) : List (Int × Int) :=
  if 0 ≤ at_ ∧ at_ ≤ 1099511627776 then (match runM sp st sz zF (at_ + 1) l with | some (_, ps, _) => ps | none => []) else []
def needM (sp st sz : Int) (f : Fil) (q : Int) (l : List Int) : Int :=
  if 1 ≤ q ∧ q ≤ 1099511627776 then (match runM sp st sz f q l with | some (_, _, c) => (c : Int) | none => 0) else 0
def pcells (ps : List (Int × Int)) : List Value := ps.flatMap fun p => [.int .i64 p.1, .int .i64 p.2]
theorem pcells_snoc (ps : List (Int × Int)) (p : Int × Int) : pcells (ps ++ [p]) = pcells ps ++ [.int .i64 p.1, .int .i64 p.2] := by simp [pcells]
theorem pcells_length (ps : List (Int × Int)) : (pcells ps).length = ps.length * 2 := by
  induction ps with
  | nil => rfl
  | cons p ps ih => simp only [pcells, List.flatMap_cons, List.length_append, List.length_cons, List.length_nil] at *; omega
theorem pcells_oneCell (ps : List (Int × Int)) : ∀ u ∈ pcells ps, u.oneCell' = true := by
  intro u hu
  simp only [pcells, List.mem_flatMap] at hu
  obtain ⟨p, _, hu⟩ := hu
  simp at hu
  rcases hu with rfl | rfl <;> rfl
theorem pcells_get {ps : List (Int × Int)} {k : Nat} {p : Int × Int} (h : ps[k]? = some p) : (pcells ps)[k * 2]? = some (.int .i64 p.1) ∧ (pcells ps)[k * 2 + 1]? = some (.int .i64 p.2) := by
  induction ps generalizing k with
  | nil => simp at h
  | cons a ps ih =>
    cases k with
    | zero =>
      simp at h
      subst h
      simp [pcells]
    | succ k =>
      simp at h
      have := ih h
      have e1 : (k + 1) * 2 = k * 2 + 2 := by omega
      have e2 : (k + 1) * 2 + 1 = k * 2 + 1 + 2 := by omega
      rw [e2, e1]
      simpa [pcells] using this
theorem runM_length {sp st sz : Int} : ∀ {l : List Int} {f : Fil} {q : Int} {g : Fil} {ps : List (Int × Int)} {c : Nat}, runM sp st sz f q l = some (g, ps, c) → ps.length = l.length ∧ c ≤ l.length
  | [], f, q, g, ps, c, h => by
    simp [runM] at h
    obtain ⟨_, rfl, rfl⟩ := h
    simp
  | a :: l, (s, u0, u1, u2, u3), q, g, ps, c, h => by
    simp only [runM] at h
    generalize putM sp st sz s u0 u1 u2 u3 q a = x at h
    obtain ⟨g', p, nx, ok⟩ := x
    cases ok
    · simp at h
    · simp only [if_true] at h
      cases hr : runM sp st sz g' (q + 1) l with
      | none => rw [hr] at h; simp at h
      | some x =>
        obtain ⟨h', ps', c'⟩ := x
        have ih := runM_length hr
        rw [hr] at h
        simp only [Option.some.injEq, Prod.mk.injEq] at h
        obtain ⟨_, rfl, rfl⟩ := h
        simp only [List.length_cons]
        refine ⟨by omega, ?_⟩
        split <;> omega
end Go.Proofs.Ytidcgbegpmihaaa
