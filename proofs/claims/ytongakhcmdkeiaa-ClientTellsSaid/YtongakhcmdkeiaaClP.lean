/- Plain laws on lists of clients that may be: no program. Conditions: those that each theorem states. -/
import Derived.Test.YtongakhcmdkeiaaClH
namespace Go.Proofs.Ytongakhcmdkeiaa
open Go.RowKit

theorem rf_cons {last i p : Int} {f : Bool} {r : List Cl} : rightFrom last ((i, p, f) :: r) = true ↔ mayB i p = true ∧ last < i ∧ rightFrom i r = true := by
  simp [rightFrom, and_assoc]
theorem rf_less {last last' : Int} (h : last' ≤ last) : ∀ {L : List Cl}, rightFrom last L = true → rightFrom last' L = true
  | [], _ => rfl
  | (i, p, f) :: r, e => by
    rw [rf_cons] at e ⊢
    exact ⟨e.1, by omega, e.2.2⟩
theorem findC_none {id : Int} : ∀ {L : List Cl} {last : Int}, rightFrom last L = true → id ≤ last → findC id L = none
  | [], _, _, _ => rfl
  | (i, p, f) :: r, last, h, hl => by
    rw [rf_cons] at h
    simp only [findC]
    rw [if_neg (by omega), findC_none h.2.2 (by omega)]
theorem inB_find {id : Int} : ∀ {L : List Cl} {last : Int}, rightFrom last L = true → inB id L = (findC id L).isSome
  | [], _, _ => rfl
  | (i, p, f) :: r, last, h => by
    rw [rf_cons] at h
    by_cases hi : id ≤ i
    · have e : inB id ((i, p, f) :: r) = (i == id) := inB_at (k := 0) (p := p) (f := f) rfl (by simp [placeN, hi])
      rw [e]
      by_cases he : i = id
      · simp [findC, he]
      · simp only [findC, if_neg he]
        rw [findC_none h.2.2 hi]
        simp [he]
    · have e : inB id ((i, p, f) :: r) = inB id r := by
        unfold inB
        simp only [placeN, if_neg hi, List.getElem?_cons_succ]
      rw [e, inB_find h.2.2]
      simp only [findC]
      rw [if_neg (by omega)]
theorem insC_cons (x y : Cl) (r : List Cl) (k : Nat) : insC (x :: r) (k + 1) y = x :: insC r k y := by simp [insC]
theorem rf_ins {id q : Int} {f : Bool} (hm : mayB id q = true) : ∀ {L : List Cl} {last : Int}, rightFrom last L = true → last < id → inB id L = false → rightFrom last (insC L (placeN id L) (id, q, f)) = true
  | [], last, _, hl, _ => by
    show rightFrom last [(id, q, f)] = true
    rw [rf_cons]
    exact ⟨hm, hl, rfl⟩
  | (i, p, g) :: r, last, h, hl, hi => by
    by_cases hge : id ≤ i
    · have e : placeN id ((i, p, g) :: r) = 0 := by simp [placeN, hge]
      rw [e]
      show rightFrom last ((id, q, f) :: (i, p, g) :: r) = true
      have hne : i ≠ id := by
        rw [inB_at (k := 0) (p := p) (f := g) rfl e] at hi
        simpa using hi
      rw [rf_cons] at h ⊢
      rw [rf_cons]
      exact ⟨hm, hl, h.1, by omega, h.2.2⟩
    · have e : placeN id ((i, p, g) :: r) = placeN id r + 1 := by simp [placeN, hge]
      have e2 : inB id ((i, p, g) :: r) = inB id r := by
        unfold inB
        rw [e, List.getElem?_cons_succ]
      rw [e2] at hi
      rw [e, insC_cons]
      rw [rf_cons] at h ⊢
      exact ⟨h.1, h.2.1, rf_ins hm h.2.2 (by omega) hi⟩
theorem find_ins {id q : Int} {f : Bool} : ∀ {L : List Cl}, findC id (insC L (placeN id L) (id, q, f)) = some (id, q, f)
  | [] => by simp [insC, placeN, findC]
  | (i, p, g) :: r => by
    by_cases hge : id ≤ i
    · have e : placeN id ((i, p, g) :: r) = 0 := by simp [placeN, hge]
      rw [e]
      show findC id ((id, q, f) :: (i, p, g) :: r) = _
      simp [findC]
    · have e : placeN id ((i, p, g) :: r) = placeN id r + 1 := by simp [placeN, hge]
      rw [e, insC_cons]
      simp only [findC]
      rw [if_neg (by omega), find_ins]
theorem ins_length {L : List Cl} {k : Nat} (hk : k ≤ L.length) (x : Cl) : (insC L k x).length = L.length + 1 := by simp [insC]; omega
theorem rightB_from {L : List Cl} (h : rightB L = true) : rightFrom 0 L = true := by simp [rightB] at h; exact h.1
theorem rightB_mk {L : List Cl} (h : rightFrom 0 L = true) (hl : L.length ≤ 4) : rightB L = true := by simp [rightB, h, hl]

/-- add, to a list that may be. -/
theorem addM_eq {L : List Cl} {id q : Int} (hr : rightB L = true) (hm : mayB id q = true) :
    addM L id q = if (findC id L).isSome then ([], 5) else if L.length = 4 then ([], 6) else (insC L (placeN id L) (id, q, false), 0) := by
  unfold addM
  rw [hr, hm, inB_find (rightB_from hr)]
  simp
theorem add_right {L : List Cl} {id q : Int} (hr : rightB L = true) (hm : mayB id q = true) (hi : (findC id L).isSome = false) (h4 : L.length ≠ 4) : rightB (insC L (placeN id L) (id, q, false)) = true := by
  have hl := rightB_len hr
  refine rightB_mk (rf_ins hm (rightB_from hr) (by have := mayB_is hm; omega) (by rw [inB_find (rightB_from hr)]; exact hi)) ?_
  rw [ins_length (placeN_le _ _)]
  omega

theorem rf_at {id : Int} : ∀ {L : List Cl} {last : Int}, rightFrom last L = true → (findC id L).isSome = true → ∃ p f, L[placeN id L]? = some (id, p, f) ∧ findC id L = some (id, p, f)
  | [], _, _, h => by simp [findC] at h
  | (i, p, f) :: r, last, h, hs => by
    rw [rf_cons] at h
    by_cases hi : i = id
    · subst hi
      exact ⟨p, f, by simp [placeN], by simp [findC]⟩
    · have hs' : (findC id r).isSome = true := by simpa [findC, hi] using hs
      have hlt : ¬ id ≤ i := fun hle => by rw [findC_none h.2.2 hle] at hs'; cases hs'
      obtain ⟨p', f', h1, h2⟩ := rf_at h.2.2 hs'
      exact ⟨p', f', by simp [placeN, hlt, h1], by simp [findC, hi, h2]⟩
theorem rf_drop : ∀ {L : List Cl} {last : Int} (k : Nat), rightFrom last L = true → rightFrom last (L.take k ++ L.drop (k + 1)) = true
  | [], _, k, _ => by simp [rightFrom]
  | (i, p, f) :: r, last, 0, h => by
    rw [rf_cons] at h
    simpa using rf_less (by omega) h.2.2
  | (i, p, f) :: r, last, k + 1, h => by
    rw [rf_cons] at h
    simp only [List.take_succ_cons, List.drop_succ_cons, List.cons_append]
    rw [rf_cons]
    exact ⟨h.1, h.2.1, rf_drop k h.2.2⟩
theorem rf_set : ∀ {L : List Cl} {last : Int} {k : Nat} {i p q : Int} {f g : Bool}, rightFrom last L = true → L[k]? = some (i, p, f) → mayB i q = true → rightFrom last (L.set k (i, q, g)) = true
  | [], _, k, _, _, _, _, _, _, h, _ => by simp at h
  | (a, b, c) :: r, last, 0, i, p, q, f, g, h, hx, hm => by
    simp at hx
    obtain ⟨rfl, rfl, rfl⟩ := hx
    rw [rf_cons] at h
    simp only [List.set_cons_zero]
    rw [rf_cons]
    exact ⟨hm, h.2.1, h.2.2⟩
  | (a, b, c) :: r, last, k + 1, i, p, q, f, g, h, hx, hm => by
    rw [rf_cons] at h
    simp only [List.set_cons_succ]
    rw [rf_cons]
    exact ⟨h.1, h.2.1, rf_set h.2.2 (by simpa using hx) hm⟩
theorem rf_may : ∀ {L : List Cl} {last : Int} {k : Nat} {i p : Int} {f : Bool}, rightFrom last L = true → L[k]? = some (i, p, f) → mayB i p = true
  | [], _, k, _, _, _, _, h => by simp at h
  | (a, b, c) :: r, last, 0, i, p, f, h, hx => by
    simp at hx
    obtain ⟨rfl, rfl, rfl⟩ := hx
    rw [rf_cons] at h
    exact h.1
  | (a, b, c) :: r, last, k + 1, i, p, f, h, hx => by
    rw [rf_cons] at h
    exact rf_may h.2.2 (by simpa using hx)

/-- Whatever call goes: what it leaves may be. -/
theorem one_right {L : List Cl} (hr : rightB L = true) (a id pos : Int) (off : Bool) (h : (oneM L a id pos off).2 = 0) : rightB (oneM L a id pos off).1 = true := by
  unfold oneM at h ⊢
  split at h
  · rename_i h0
    rw [if_pos h0]
    cases hm : mayB id pos
    · simp [addM, hm] at h
    · rw [addM_eq hr hm] at h ⊢
      cases hi : (findC id L).isSome
      · by_cases h4 : L.length = 4
        · simp [hi, h4] at h
        · simp only [h4, if_false, Bool.false_eq_true]
          exact add_right hr hm hi h4
      · simp [hi] at h
  · rename_i h0
    rw [if_neg h0]
    split at h
    · rename_i h1
      rw [if_pos h1]
      unfold dropM at h ⊢
      split at h
      · rename_i hk
        rw [if_pos hk]
        have hl := rightB_len hr
        exact rightB_mk (rf_drop _ (rightB_from hr)) (by simp; omega)
      · rename_i hk
        exact absurd h hk
    · rename_i h1
      rw [if_neg h1]
      split at h
      · rename_i h2
        rw [if_pos h2]
        unfold commitM at h ⊢
        split at h
        · rename_i hk
          rw [if_pos hk]
          obtain ⟨_, hm, hi, hp⟩ := knownM_ok hk
          obtain ⟨p, f, hx⟩ := inB_is hi
          rw [hp]
          unfold setP
          rw [hx]
          have hmx := rf_may (rightB_from hr) hx
          have m1 := mayB_is hm
          have m2 := mayB_is hmx
          refine rightB_mk (rf_set (rightB_from hr) hx (mayB_mk (by omega))) ?_
          have := rightB_len hr
          simpa using this
        · rename_i hk
          exact absurd h hk
      · rename_i h2
        rw [if_neg h2]
        unfold turnM at h ⊢
        split at h
        · rename_i hk
          rw [if_pos hk]
          obtain ⟨_, hm, hi, hp⟩ := knownM_ok hk
          obtain ⟨p, f, hx⟩ := inB_is hi
          rw [hp]
          unfold setO
          rw [hx]
          have hmx := rf_may (rightB_from hr) hx
          refine rightB_mk (rf_set (rightB_from hr) hx hmx) ?_
          have := rightB_len hr
          simpa using this
        · rename_i hk
          exact absurd h hk
end Go.Proofs.Ytongakhcmdkeiaa
