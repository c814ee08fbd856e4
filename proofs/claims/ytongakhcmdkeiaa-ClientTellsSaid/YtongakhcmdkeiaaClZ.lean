/- What the laws' arguments hold: a slice of calls, a slice of clients, a call. -/
import Derived.Test.YtongakhcmdkeiaaRows
import Derived.Test.YtongakhcmdkeiaaClK
import Derived.WalkKit
import Derived.ProofKit
import Derived.OpenShut
import Derived.ShutString
import Derived.Lib.SmallJoins
import Derived.Deep.Slices
import Derived.Deep.Fields
namespace Go.Proofs.Ytongakhcmdkeiaa
open Go.ChangeShapes Go.WideShapes Go.ChangeAt Go.RowKit Go.Joins Go.Deep

/-- A list out of one choice for each place. -/
theorem list_of {α : Type} {P : Nat → α → Prop} : ∀ (n : Nat), (∀ i, i < n → ∃ x, P i x) → ∃ L : List α, L.length = n ∧ ∀ (i : Nat) (x : α), L[i]? = some x → P i x
  | 0, _ => ⟨[], rfl, fun i x h => by simp at h⟩
  | n + 1, h => by
    obtain ⟨L, h1, h2⟩ := list_of n (fun i hi => h i (by omega))
    obtain ⟨y, hy⟩ := h n (by omega)
    refine ⟨L ++ [y], by simp [h1], fun i x hx => ?_⟩
    by_cases hi : i < n
    · rw [List.getElem?_append_left (by omega)] at hx; exact h2 i x hx
    · rw [List.getElem?_append_right (by omega)] at hx
      have h0 : i - L.length = 0 := by
        have := (List.getElem?_eq_some_iff.1 hx).1
        simp at this; omega
      rw [h0] at hx
      simp at hx
      subst hx
      obtain rfl : i = n := by omega
      exact hy

theorem acs_split : ∀ {L : List Actc} {j : Nat} {u : Value}, (acs L)[j]? = some u → ∃ (k : Nat) (x : Actc), L[k]? = some x ∧ ((j = k * 4 ∧ u = .int .i64 x.1) ∨ (j = k * 4 + 1 ∧ u = .int .i64 x.2.1) ∨ (j = k * 4 + 2 ∧ u = .int .i64 x.2.2.1) ∨ (j = k * 4 + 3 ∧ u = .bool x.2.2.2))
  | [], j, u, h => by simp [acs] at h
  | (a, t, i, f) :: r, 0, u, h => by simp [acs] at h; exact ⟨0, _, rfl, .inl ⟨rfl, h.symm⟩⟩
  | (a, t, i, f) :: r, 1, u, h => by simp [acs] at h; exact ⟨0, _, rfl, .inr (.inl ⟨rfl, h.symm⟩)⟩
  | (a, t, i, f) :: r, 2, u, h => by simp [acs] at h; exact ⟨0, _, rfl, .inr (.inr (.inl ⟨rfl, h.symm⟩))⟩
  | (a, t, i, f) :: r, 3, u, h => by simp [acs] at h; exact ⟨0, _, rfl, .inr (.inr (.inr ⟨rfl, h.symm⟩))⟩
  | (a, t, i, f) :: r, j + 4, u, h => by
    simp only [acs, List.getElem?_cons_succ] at h
    obtain ⟨k, x, h1, h2⟩ := acs_split h
    refine ⟨k + 1, x, by simpa using h1, ?_⟩
    rcases h2 with ⟨e, h⟩ | ⟨e, h⟩ | ⟨e, h⟩ | ⟨e, h⟩
    · exact .inl ⟨by omega, h⟩
    · exact .inr (.inl ⟨by omega, h⟩)
    · exact .inr (.inr (.inl ⟨by omega, h⟩))
    · exact .inr (.inr (.inr ⟨by omega, h⟩))
theorem clc_split : ∀ {L : List Cl} {j : Nat} {u : Value}, (clc L)[j]? = some u → ∃ (k : Nat) (x : Cl), L[k]? = some x ∧ ((j = k * 3 ∧ u = .int .i64 x.1) ∨ (j = k * 3 + 1 ∧ u = .int .i64 x.2.1) ∨ (j = k * 3 + 2 ∧ u = .bool x.2.2))
  | [], j, u, h => by simp [clc] at h
  | (a, t, f) :: r, 0, u, h => by simp [clc] at h; exact ⟨0, _, rfl, .inl ⟨rfl, h.symm⟩⟩
  | (a, t, f) :: r, 1, u, h => by simp [clc] at h; exact ⟨0, _, rfl, .inr (.inl ⟨rfl, h.symm⟩)⟩
  | (a, t, f) :: r, 2, u, h => by simp [clc] at h; exact ⟨0, _, rfl, .inr (.inr ⟨rfl, h.symm⟩)⟩
  | (a, t, f) :: r, j + 3, u, h => by
    simp only [clc, List.getElem?_cons_succ] at h
    obtain ⟨k, x, h1, h2⟩ := clc_split h
    refine ⟨k + 1, x, by simpa using h1, ?_⟩
    rcases h2 with ⟨e, h⟩ | ⟨e, h⟩ | ⟨e, h⟩
    · exact .inl ⟨by omega, h⟩
    · exact .inr (.inl ⟨by omega, h⟩)
    · exact .inr (.inr ⟨by omega, h⟩)

theorem cells3 : Try.prog.cellsOf 3 = 1 := by kernel_rfl
theorem cells4 : Try.prog.cellsOf 4 = 1 := by kernel_rfl
theorem cells29 : Try.prog.cellsOf 29 = 4 := by kernel_rfl
theorem cells42 : Try.prog.cellsOf 42 = 3 := by kernel_rfl

section
variable {H : Type} {enc : TypeId × Value → H} {w : World} {b0 : Nat} {r : Reach} {v : Value} {d : DataW H} {p : List MemPlace}
theorem open_acts (hv : Value.okWide Try.prog w r b0 22 v) (h : DataW.Trod enc Try.prog w 0 (fun _ => true) true 22 v d p) : ∃ (A : Option Addr) (n c : Nat) (L : List Actc), v = .slice A n c ∧ ActsAt w A n c L := by
  obtain ⟨A, n, c, rfl⟩ := okWide_slice Try.underlying22 hv
  obtain ⟨fuel, hf⟩ := h
  have hf' : DataW.trod enc Try.prog w 0 (fun _ => true) true fuel 22 [.slice A n c] = some (d, p) := hf
  rcases open_slice Try.underlying22 hf' with ⟨hcs, _⟩ | ⟨a, len, cap, m, n', D, Pl, hcs, hb, hl, hm, hmm, hx, hi⟩
  · injection hcs with hcs
    injection hcs with e1 e2 e3
    subst e1 e2 e3
    exact ⟨none, 0, 0, [], rfl, Reads.nil_ _ _ _⟩
  · injection hcs with hcs
    injection hcs with e1 e2 e3
    subst e1 e2 e3
    have hm' : m = c := by simpa using hmm
    have hone : ∀ i, i < n → ∃ x : Actc, w.cell? (a.add (i * 4)) = some (.int .i64 x.1) ∧ w.cell? (a.add (i * 4 + 1)) = some (.int .i64 x.2.1) ∧ w.cell? (a.add (i * 4 + 2)) = some (.int .i64 x.2.2.1) ∧ w.cell? (a.add (i * 4 + 3)) = some (.bool x.2.2.2) := by
      intro i hin
      obtain ⟨cs', hc, ht⟩ := hi i (by omega)
      rw [cells29] at hc
      obtain ⟨ys, n'', _, _, hlen, hyl, hfld⟩ := DataW.trod_struct Try.underlying29 ht
      obtain ⟨_, hcl, hat⟩ := World.cells?_some hc
      match cs', hcl with
      | [c0, c1, c2, c3], _ =>
        have f0 : DataW.trod enc Try.prog w 0 (fun _ => true) true n'' 3 [c0] = ys[0]? := by have h := hfld 0 _ rfl; simp [cells3] at h; exact h
        have f1 : DataW.trod enc Try.prog w 0 (fun _ => true) true n'' 3 [c1] = ys[1]? := by have h := hfld 1 _ rfl; simp [cells3] at h; exact h
        have f2 : DataW.trod enc Try.prog w 0 (fun _ => true) true n'' 3 [c2] = ys[2]? := by have h := hfld 2 _ rfl; simp [cells3] at h; exact h
        have f3 : DataW.trod enc Try.prog w 0 (fun _ => true) true n'' 4 [c3] = ys[3]? := by have h := hfld 3 _ rfl; simp [cells4] at h; exact h
        have hys : ∀ j, j < 4 → ∃ y, ys[j]? = some y := fun j hj => ⟨_, List.getElem?_eq_getElem (by rw [hyl]; exact hj)⟩
        obtain ⟨y0, g0⟩ := hys 0 (by omega)
        obtain ⟨y1, g1⟩ := hys 1 (by omega)
        obtain ⟨y2, g2⟩ := hys 2 (by omega)
        obtain ⟨y3, g3⟩ := hys 3 (by omega)
        rw [g0] at f0
        rw [g1] at f1
        rw [g2] at f2
        rw [g3] at f3
        obtain ⟨x0, e0, _, _⟩ := DataW.trod_int Try.underlying3 f0
        obtain ⟨x1, e1, _, _⟩ := DataW.trod_int Try.underlying3 f1
        obtain ⟨x2, e2, _, _⟩ := DataW.trod_int Try.underlying3 f2
        obtain ⟨x3, e3, _⟩ := DataW.trod_bool Try.underlying4 f3
        injection e0 with e0
        injection e1 with e1
        injection e2 with e2
        injection e3 with e3
        subst e0 e1 e2 e3
        have a0 := hat 0 (by omega)
        have a1 := hat 1 (by omega)
        have a2 := hat 2 (by omega)
        have a3 := hat 3 (by omega)
        rw [add_add] at a0 a1 a2 a3
        exact ⟨(x0, x1, x2, x3), a0, a1, a2, a3⟩
    obtain ⟨L, hL, hLx⟩ := list_of n hone
    refine ⟨some a, n, c, L, rfl, by rw [acs_length, hL], hl, hm, fun h => (by cases h), fun hn => ?_⟩
    obtain ⟨b, o, sp⟩ := a
    obtain ⟨x0, hx0⟩ : ∃ x, L[0]? = some x := ⟨_, List.getElem?_eq_getElem (by omega)⟩
    have h0 := (hLx 0 x0 hx0).1
    have hs : sp = none := by simpa [Addr.add] using World.cell?_spot h0
    subst hs
    refine ⟨b, o, rfl, ?_, fun j u hu => ?_⟩
    · rw [add_lit] at h0; exact cell_block h0
    · obtain ⟨k, x, hx, hk⟩ := acs_split hu
      obtain ⟨q0, q1, q2, q3⟩ := hLx k x hx
      rw [add_lit] at q0 q1 q2 q3
      rcases hk with ⟨rfl, rfl⟩ | ⟨rfl, rfl⟩ | ⟨rfl, rfl⟩ | ⟨rfl, rfl⟩
      · exact q0
      · exact q1
      · exact q2
      · exact q3
theorem open_clients (hv : Value.okWide Try.prog w r b0 24 v) (h : DataW.Trod enc Try.prog w 0 (fun _ => true) true 24 v d p) : ∃ (A : Option Addr) (n c : Nat) (L : List Cl), v = .slice A n c ∧ ClAt w A n c L := by
  obtain ⟨A, n, c, rfl⟩ := okWide_slice Try.underlying24 hv
  obtain ⟨fuel, hf⟩ := h
  have hf' : DataW.trod enc Try.prog w 0 (fun _ => true) true fuel 24 [.slice A n c] = some (d, p) := hf
  rcases open_slice Try.underlying24 hf' with ⟨hcs, _⟩ | ⟨a, len, cap, m, n', D, Pl, hcs, hb, hl, hm, hmm, hx, hi⟩
  · injection hcs with hcs
    injection hcs with e1 e2 e3
    subst e1 e2 e3
    exact ⟨none, 0, 0, [], rfl, Reads.nil_ _ _ _⟩
  · injection hcs with hcs
    injection hcs with e1 e2 e3
    subst e1 e2 e3
    have hm' : m = c := by simpa using hmm
    have hone : ∀ i, i < n → ∃ x : Cl, w.cell? (a.add (i * 3)) = some (.int .i64 x.1) ∧ w.cell? (a.add (i * 3 + 1)) = some (.int .i64 x.2.1) ∧ w.cell? (a.add (i * 3 + 2)) = some (.bool x.2.2) := by
      intro i hin
      obtain ⟨cs', hc, ht⟩ := hi i (by omega)
      rw [cells42] at hc
      obtain ⟨ys, n'', _, _, hlen, hyl, hfld⟩ := DataW.trod_struct Try.underlying42 ht
      obtain ⟨_, hcl, hat⟩ := World.cells?_some hc
      match cs', hcl with
      | [c0, c1, c2], _ =>
        have f0 : DataW.trod enc Try.prog w 0 (fun _ => true) true n'' 3 [c0] = ys[0]? := by have h := hfld 0 _ rfl; simp [cells3] at h; exact h
        have f1 : DataW.trod enc Try.prog w 0 (fun _ => true) true n'' 3 [c1] = ys[1]? := by have h := hfld 1 _ rfl; simp [cells3] at h; exact h
        have f2 : DataW.trod enc Try.prog w 0 (fun _ => true) true n'' 4 [c2] = ys[2]? := by have h := hfld 2 _ rfl; simp [cells4] at h; exact h
        have hys : ∀ j, j < 3 → ∃ y, ys[j]? = some y := fun j hj => ⟨_, List.getElem?_eq_getElem (by rw [hyl]; exact hj)⟩
        obtain ⟨y0, g0⟩ := hys 0 (by omega)
        obtain ⟨y1, g1⟩ := hys 1 (by omega)
        obtain ⟨y2, g2⟩ := hys 2 (by omega)
        rw [g0] at f0
        rw [g1] at f1
        rw [g2] at f2
        obtain ⟨x0, e0, _, _⟩ := DataW.trod_int Try.underlying3 f0
        obtain ⟨x1, e1, _, _⟩ := DataW.trod_int Try.underlying3 f1
        obtain ⟨x2, e2, _⟩ := DataW.trod_bool Try.underlying4 f2
        injection e0 with e0
        injection e1 with e1
        injection e2 with e2
        subst e0 e1 e2
        have a0 := hat 0 (by omega)
        have a1 := hat 1 (by omega)
        have a2 := hat 2 (by omega)
        rw [add_add] at a0 a1 a2
        exact ⟨(x0, x1, x2), a0, a1, a2⟩
    obtain ⟨L, hL, hLx⟩ := list_of n hone
    refine ⟨some a, n, c, L, rfl, by rw [clc_length, hL], hl, hm, fun h => (by cases h), fun hn => ?_⟩
    obtain ⟨b, o, sp⟩ := a
    obtain ⟨x0, hx0⟩ : ∃ x, L[0]? = some x := ⟨_, List.getElem?_eq_getElem (by omega)⟩
    have h0 := (hLx 0 x0 hx0).1
    have hs : sp = none := by simpa [Addr.add] using World.cell?_spot h0
    subst hs
    refine ⟨b, o, rfl, ?_, fun j u hu => ?_⟩
    · rw [add_lit] at h0; exact cell_block h0
    · obtain ⟨k, x, hx, hk⟩ := clc_split hu
      obtain ⟨q0, q1, q2⟩ := hLx k x hx
      rw [add_lit] at q0 q1 q2
      rcases hk with ⟨rfl, rfl⟩ | ⟨rfl, rfl⟩ | ⟨rfl, rfl⟩
      · exact q0
      · exact q1
      · exact q2
end
end Go.Proofs.Ytongakhcmdkeiaa
