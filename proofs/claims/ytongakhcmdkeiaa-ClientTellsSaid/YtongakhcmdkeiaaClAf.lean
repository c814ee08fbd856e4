/- What the document's GetClients answers is what Get answers: plain laws. Conditions: those that each theorem states. -/
import Derived.Test.YtongakhcmdkeiaaClAe
namespace Go.Proofs.Ytongakhcmdkeiaa
open Go.RowKit

theorem parseN_num {m a i p f b : Nat} {l : List Int} (h : num3 l a = some (i, p, f, b)) : parseN (m + 1) a l = (parseN m b l).map ((((i : Nat) : Int), ((p : Nat) : Int), ((f : Nat) : Int) == 1) :: ·) := by
  unfold num3 at h
  cases h1 : gvR l a with
  | none => rw [h1] at h; cases h
  | some x1 =>
    obtain ⟨v1, a1⟩ := x1
    rw [h1] at h
    simp only at h
    cases h2 : gvR l a1 with
    | none => rw [h2] at h; cases h
    | some x2 =>
      obtain ⟨v2, a2⟩ := x2
      rw [h2] at h
      simp only at h
      cases h3 : gvR l a2 with
      | none => rw [h3] at h; cases h
      | some x3 =>
        obtain ⟨v3, a3⟩ := x3
        rw [h3] at h
        simp only [Option.some.injEq, Prod.mk.injEq] at h
        obtain ⟨rfl, rfl, rfl, rfl⟩ := h
        exact parseN_step h1 h2 h3
theorem num3_mk {l : List Int} {a i a1 p a2 f a3 : Nat} (g1 : gvR l a = some (i, a1)) (g2 : gvR l a1 = some (p, a2)) (g3 : gvR l a2 = some (f, a3)) : num3 l a = some (i, p, f, a3) := by
  simp [num3, g1, g2, g3]
theorem rparse_sub : ∀ {m a : Nat} {l : List Int} {L : List Cl}, rparseN m a l = some L → parseN m a l = some L
  | 0, _, _, _, h => h
  | m + 1, a, l, L, h => by
    cases hn : num3 l a with
    | none => simp [rparseN, hn] at h
    | some x =>
      obtain ⟨i, p, f, b⟩ := x
      rw [parseN_num hn]
      simp only [rparseN, hn] at h
      split at h
      · cases h
      · cases hr : rparseN m b l with
        | none => rw [hr] at h; cases h
        | some M =>
          rw [hr] at h
          rw [rparse_sub hr]
          exact h
theorem rparse_rows : ∀ {L : List Cl} {last : Int} {a : Nat} {l s : List Int}, rightFrom last L = true → l.drop a = rowsB L ++ s → rparseN L.length a l = some L
  | [], _, _, _, _, _, _ => rfl
  | (i, p, f) :: r, last, a, l, s, h, hd => by
    rw [rf_cons] at h
    have m := mayB_is h.1
    have e : rowsB ((i, p, f) :: r) ++ s = vl i.toNat ++ (vl p.toNat ++ (vl (bitN f) ++ (rowsB r ++ s))) := by simp [rowsB, rowB]
    rw [e] at hd
    obtain ⟨g1, d1⟩ := gvR_at hd (by omega)
    obtain ⟨g2, d2⟩ := gvR_at d1 (by omega)
    obtain ⟨g3, d3⟩ := gvR_at d2 (bitN_lt f)
    have ih := rparse_rows h.2.2 d3
    have hb : ¬ 1 < bitN f := by unfold bitN; split <;> omega
    simp only [List.length_cons, rparseN, num3_mk g1 g2 g3, if_neg hb, ih, Option.map_some]
    have e1 : ((i.toNat : Nat) : Int) = i := by omega
    have e2 : ((p.toNat : Nat) : Int) = p := by omega
    rw [e1, e2, bit_is]
theorem rparse_put {L : List Cl} (h : rightB L = true) : rparseM (putM L) = some L := by
  have hl := rightB_len h
  have hd : (putM L).drop 0 = vl L.length ++ (rowsB L ++ []) := by simp [putM]
  obtain ⟨g, d⟩ := gvR_at hd (by omega)
  unfold rparseM
  rw [g]
  simp only
  rw [if_neg (by omega)]
  exact rparse_rows (rightB_from h) d
theorem rget_get {l : List Int} (hby : IsBytes l) : rgetM l = getM l := by
  unfold rgetM getM
  cases hr : rparseM l with
  | some L =>
    have hp : parseM l = some L := by
      unfold rparseM at hr
      unfold parseM
      cases hg : gvR l 0 with
      | none => rw [hg] at hr; cases hr
      | some x =>
        obtain ⟨n, a⟩ := x
        rw [hg] at hr
        simp only at hr ⊢
        split at hr
        · cases hr
        · rename_i h4
          rw [if_neg h4]
          exact rparse_sub hr
    rw [hp]
  | none =>
    cases hp : parseM l with
    | none => rfl
    | some L =>
      simp only
      cases hc : (rightB L && eqB (putM L) l)
      · simp
      · rw [Bool.and_eq_true] at hc
        have e := eqB_is hc.2 (put_bytes hc.1) hby
        rw [← e, rparse_put hc.1] at hr
        cases hr
end Go.Proofs.Ytongakhcmdkeiaa
