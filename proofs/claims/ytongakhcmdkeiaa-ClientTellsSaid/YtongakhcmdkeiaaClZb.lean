/- What ClientTells' arguments hold: the form of a slice's address; a call; bytes. -/
import Derived.Test.YtongakhcmdkeiaaClZ
namespace Go.Proofs.Ytongakhcmdkeiaa
open Go.ChangeShapes Go.WideShapes Go.ChangeAt Go.RowKit Go.Joins Go.Deep
section
variable {H : Type} {enc : TypeId × Value → H} {w : World} {b0 : Nat} {r : Reach} {v : Value} {d : DataW H} {p : List MemPlace}
theorem open_clients3 (hv : Value.okWide Try.prog w r b0 24 v) (h : DataW.Trod enc Try.prog w 0 (fun _ => true) true 24 v d p) : ∃ (A : Option Addr) (n c : Nat) (L : List Cl), v = .slice A n c ∧ ClAt w A n c L ∧ (A = none ∨ (∃ b o, A = some ⟨b, o, none⟩) ∨ (∃ ad, A = some ad ∧ c = 0)) := by
  obtain ⟨A, n, c, L, rfl, hcl⟩ := open_clients hv h
  refine ⟨A, n, c, L, rfl, hcl, ?_⟩
  obtain ⟨fuel, hf⟩ := h
  have hf' : DataW.trod enc Try.prog w 0 (fun _ => true) true fuel 24 [.slice A n c] = some (d, p) := hf
  rcases open_slice Try.underlying24 hf' with ⟨hcs, _⟩ | ⟨a, len, cap, m, n', D, Pl, hcs, hb, hl, hm, hmm, hx, hi⟩
  · injection hcs with hcs
    injection hcs with e1 e2 e3
    exact .inl e1
  · injection hcs with hcs
    injection hcs with e1 e2 e3
    subst e1 e2 e3
    have hm' : m = c := by simpa using hmm
    rcases Nat.eq_zero_or_pos c with h0 | h0
    · exact .inr (.inr ⟨a, rfl, h0⟩)
    · obtain ⟨cs', hc, ht⟩ := hi 0 (by omega)
      rw [cells42] at hc
      obtain ⟨_, hcl', hat⟩ := World.cells?_some hc
      match cs', hcl' with
      | [c0, c1, c2], _ =>
        have a0 := hat 0 (by omega)
        rw [add_add] at a0
        obtain ⟨b, o, sp⟩ := a
        have hs : sp = none := by simpa [Addr.add] using World.cell?_spot a0
        subst hs
        exact .inr (.inl ⟨b, o, rfl⟩)
theorem open_act (hv : Value.okWide Try.prog w r b0 29 v) (h : DataW.Trod enc Try.prog w 0 (fun _ => true) true 29 v d p) : ∃ (a i q : Int) (f : Bool), v = .agg #[.int .i64 a, .int .i64 i, .int .i64 q, .bool f] := by
  obtain ⟨cs, rfl, hsz⟩ := okWide_struct Try.underlying29 hv
  obtain ⟨l⟩ := cs
  match l, hsz.trans cells29 with
  | [c0, c1, c2, c3], _ =>
    obtain ⟨fuel, hf⟩ := h
    have ht : DataW.trod enc Try.prog w 0 (fun _ => true) true fuel 29 [c0, c1, c2, c3] = some (d, p) := hf
    obtain ⟨ys, n'', _, _, hlen, hyl, hfld⟩ := DataW.trod_struct Try.underlying29 ht
    have f0 : DataW.trod enc Try.prog w 0 (fun _ => true) true n'' 3 [c0] = ys[0]? := by have h := hfld 0 _ rfl; simp [cells3] at h; exact h
    have f1 : DataW.trod enc Try.prog w 0 (fun _ => true) true n'' 3 [c1] = ys[1]? := by have h := hfld 1 _ rfl; simp [cells3] at h; exact h
    have f2 : DataW.trod enc Try.prog w 0 (fun _ => true) true n'' 3 [c2] = ys[2]? := by have h := hfld 2 _ rfl; simp [cells3] at h; exact h
    have f3 : DataW.trod enc Try.prog w 0 (fun _ => true) true n'' 4 [c3] = ys[3]? := by have h := hfld 3 _ rfl; simp [cells4] at h; exact h
    have hys : ∀ j, j < 4 → ∃ y, ys[j]? = some y := fun j hj => ⟨_, List.getElem?_eq_getElem (by rw [hyl]; exact hj)⟩
    obtain ⟨y0, g0⟩ := hys 0 (by omega)
    obtain ⟨y1, g1⟩ := hys 1 (by omega)
    obtain ⟨y2, g2⟩ := hys 2 (by omega)
    obtain ⟨y3, g3⟩ := hys 3 (by omega)
    rw [g0] at f0
    rw [g1] at f1
    rw [g2] at f2
    rw [g3] at f3
    obtain ⟨x0, e0, _, _⟩ := DataW.trod_int Try.underlying3 f0
    obtain ⟨x1, e1, _, _⟩ := DataW.trod_int Try.underlying3 f1
    obtain ⟨x2, e2, _, _⟩ := DataW.trod_int Try.underlying3 f2
    obtain ⟨x3, e3, _⟩ := DataW.trod_bool Try.underlying4 f3
    injection e0 with e0
    injection e1 with e1
    injection e2 with e2
    injection e3 with e3
    subst e0 e1 e2 e3
    exact ⟨x0, x1, x2, x3, rfl⟩
end
end Go.Proofs.Ytongakhcmdkeiaa
