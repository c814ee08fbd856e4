/- What is put is got: plain laws. Conditions: those that each theorem states. -/
import Derived.Test.YtongakhcmdkeiaaClX
namespace Go.Proofs.Ytongakhcmdkeiaa
open Go.RowKit

theorem vl_bytes {n : Nat} (h : n < 2 ^ 63) : IsBytes (vl n) := by
  have h' : n < 128 ^ (8 + 1) := by
    have : (128 : Nat) ^ 9 = 2 ^ 63 := by decide
    omega
  exact varF_byte 8 n h'
theorem bytes_append {a b : List Int} (ha : IsBytes a) (hb : IsBytes b) : IsBytes (a ++ b) := fun x hx => (List.mem_append.1 hx).elim (ha x) (hb x)
theorem bitN_lt (f : Bool) : bitN f < 2 ^ 63 := by unfold bitN; split <;> decide
theorem rows_bytes : ∀ {L : List Cl} {last : Int}, rightFrom last L = true → IsBytes (rowsB L)
  | [], _, _ => fun x hx => by simp [rowsB] at hx
  | (i, p, f) :: r, last, h => by
    rw [rf_cons] at h
    have m := mayB_is h.1
    have e : rowsB ((i, p, f) :: r) = (vl i.toNat ++ vl p.toNat ++ vl (bitN f)) ++ rowsB r := by simp [rowsB, rowB]
    rw [e]
    exact bytes_append (bytes_append (bytes_append (vl_bytes (by omega)) (vl_bytes (by omega))) (vl_bytes (bitN_lt f))) (rows_bytes h.2.2)
theorem put_bytes {L : List Cl} (h : rightB L = true) : IsBytes (putM L) := by
  have := rightB_len h
  exact bytes_append (vl_bytes (by omega)) (rows_bytes (rightB_from h))
theorem gvR_at {l : List Int} {a n : Nat} {s : List Int} (h : l.drop a = vl n ++ s) (hn : n < 2 ^ 63) : gvR l a = some (n, a + (vl n).length) ∧ l.drop (a + (vl n).length) = s := by
  have h' : n < 128 ^ (8 + 1) := by
    have : (128 : Nat) ^ 9 = 2 ^ 63 := by decide
    omega
  have e : getS 9 0 0 (vl n ++ s) = some (2 ^ (7 * 0) * n + 0, 0 + (vl n).length) := getS_var 8 0 0 n s h' (fun h => absurd h (by decide))
  refine ⟨?_, ?_⟩
  · unfold gvR
    rw [h, e]
    simp
  · rw [← List.drop_drop, h, List.drop_left]
theorem gvR_nil {l : List Int} {a : Nat} (h : l.drop a = []) : gvR l a = none := by unfold gvR; rw [h]; rfl
theorem bit_is (f : Bool) : (((bitN f : Nat) : Int) == 1) = f := by cases f <;> rfl
theorem parseN_step {m a i a1 p a2 f a3 : Nat} {l : List Int} (g1 : gvR l a = some (i, a1)) (g2 : gvR l a1 = some (p, a2)) (g3 : gvR l a2 = some (f, a3)) :
    parseN (m + 1) a l = (parseN m a3 l).map ((((i : Nat) : Int), ((p : Nat) : Int), ((f : Nat) : Int) == 1) :: ·) := by
  rw [parseN.eq_def]
  simp only [g1, g2, g3]
theorem parse_rows : ∀ {L : List Cl} {last : Int} {a : Nat} {l s : List Int}, rightFrom last L = true → l.drop a = rowsB L ++ s → parseN L.length a l = some L
  | [], _, _, _, _, _, _ => rfl
  | (i, p, f) :: r, last, a, l, s, h, hd => by
    rw [rf_cons] at h
    have m := mayB_is h.1
    have e : rowsB ((i, p, f) :: r) ++ s = vl i.toNat ++ (vl p.toNat ++ (vl (bitN f) ++ (rowsB r ++ s))) := by simp [rowsB, rowB]
    rw [e] at hd
    obtain ⟨g1, d1⟩ := gvR_at hd (by omega)
    obtain ⟨g2, d2⟩ := gvR_at d1 (by omega)
    obtain ⟨g3, d3⟩ := gvR_at d2 (bitN_lt f)
    have ih := parse_rows h.2.2 d3
    simp only [List.length_cons, parseN, g1, g2, g3, ih, Option.map_some]
    have e1 : ((i.toNat : Nat) : Int) = i := by omega
    have e2 : ((p.toNat : Nat) : Int) = p := by omega
    rw [e1, e2, bit_is]
theorem rowB_ne (x : Cl) : rowB x ≠ [] := by
  obtain ⟨i, p, f⟩ := x
  have := vl_pos 8 i.toNat
  intro e
  have e' := congrArg List.length e
  simp only [rowB, List.length_append, List.length_nil, vl] at e'
  omega
theorem vl_bit (f : Bool) : vl (bitN f) = [((bitN f : Nat) : Int)] := by cases f <;> rfl
theorem parse_cut : ∀ {L : List Cl} {last : Int} {a : Nat} {l : List Int}, L ≠ [] → rightFrom last L = true → l.drop a = (rowsB L).dropLast → parseN L.length a l = none
  | [], _, _, _, h, _, _ => absurd rfl h
  | [(i, p, f)], last, a, l, _, h, hd => by
    rw [rf_cons] at h
    have m := mayB_is h.1
    have e : (rowsB [(i, p, f)]).dropLast = vl i.toNat ++ (vl p.toNat ++ []) := by
      simp only [rowsB, List.flatMap_cons, List.flatMap_nil, List.append_nil, rowB, vl_bit]
      rw [List.dropLast_concat]
    rw [e] at hd
    obtain ⟨g1, d1⟩ := gvR_at hd (by omega)
    obtain ⟨g2, d2⟩ := gvR_at d1 (by omega)
    have g3 := gvR_nil d2
    simp only [List.length_cons, List.length_nil, parseN, g1, g2, g3]
  | (i, p, f) :: y :: r, last, a, l, _, h, hd => by
    rw [rf_cons] at h
    have m := mayB_is h.1
    have hne : rowsB (y :: r) ≠ [] := by
      simp only [rowsB, List.flatMap_cons]
      intro e
      exact rowB_ne y (List.append_eq_nil_iff.1 e).1
    have e : (rowsB ((i, p, f) :: y :: r)).dropLast = vl i.toNat ++ (vl p.toNat ++ (vl (bitN f) ++ (rowsB (y :: r)).dropLast)) := by
      have e0 : rowsB ((i, p, f) :: y :: r) = (vl i.toNat ++ vl p.toNat ++ vl (bitN f)) ++ rowsB (y :: r) := by simp [rowsB, rowB]
      rw [e0, List.dropLast_append_of_ne_nil hne]
      simp
    rw [e] at hd
    obtain ⟨g1, d1⟩ := gvR_at hd (by omega)
    obtain ⟨g2, d2⟩ := gvR_at d1 (by omega)
    obtain ⟨g3, d3⟩ := gvR_at d2 (bitN_lt f)
    have ih := parse_cut (L := y :: r) (by simp) h.2.2 d3
    rw [List.length_cons, parseN_step g1 g2 g3, ih]
    rfl
theorem parse_put {L : List Cl} (h : rightB L = true) (s : List Int) : parseM (putM L ++ s) = some L := by
  have hl := rightB_len h
  have hd : (putM L ++ s).drop 0 = vl L.length ++ (rowsB L ++ s) := by simp [putM]
  obtain ⟨g, d⟩ := gvR_at hd (by omega)
  unfold parseM
  rw [g]
  simp only
  rw [if_neg (by omega)]
  exact parse_rows (rightB_from h) d
theorem parse_less {L : List Cl} (h : rightB L = true) : parseM (putM L).dropLast = none := by
  have hl := rightB_len h
  by_cases h0 : L = []
  · subst h0
    rfl
  · have hne : rowsB L ≠ [] := by
      cases L with
      | nil => exact absurd rfl h0
      | cons y r =>
        simp only [rowsB, List.flatMap_cons]
        intro e
        exact rowB_ne y (List.append_eq_nil_iff.1 e).1
    have hd : (putM L).dropLast.drop 0 = vl L.length ++ (rowsB L).dropLast := by
      simp only [putM, List.drop_zero]
      rw [List.dropLast_append_of_ne_nil hne]
    obtain ⟨g, d⟩ := gvR_at hd (by omega)
    unfold parseM
    rw [g]
    simp only
    rw [if_neg (by omega)]
    exact parse_cut h0 (rightB_from h) d
theorem get_put {L : List Cl} (h : rightB L = true) : getM (putM L) = (L, 0) := by
  have := parse_put h []
  rw [List.append_nil] at this
  unfold getM
  rw [this]
  simp [h, eqB_self]
theorem get_less {L : List Cl} (h : rightB L = true) : getM (putM L).dropLast = ([], 2) := by
  unfold getM
  rw [parse_less h]
theorem get_more {L : List Cl} (h : rightB L = true) {x : Int} (hx : 0 ≤ x ∧ x < 256) : getM (putM L ++ [x]) = ([], 2) := by
  unfold getM
  rw [parse_put h]
  have e : eqB (putM L) (putM L ++ [x]) = false := by
    cases e : eqB (putM L) (putM L ++ [x])
    · rfl
    · have := eqB_is e (put_bytes h) (bytes_append (put_bytes h) (fun y hy => by simp at hy; subst hy; exact hx))
      have e' := congrArg List.length this
      simp at e'
  simp [e]
end Go.Proofs.Ytongakhcmdkeiaa
