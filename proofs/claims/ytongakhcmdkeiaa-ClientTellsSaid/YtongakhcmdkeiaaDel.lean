/-
  Words of memory: a prefix of what is owned; stores behind what is owned; append where there is room as a step of a region that draws; clear of one element.
  Conditions: those that each theorem states.
-/
import Derived.Test.YtongakhcmdkeiaaDraw
import Derived.Deep.RegionLaw
import Derived.Lib.SliceRun
namespace Go.Proofs.Ytongakhcmdkeiaa
open Go.RowKit

section
variable {w : World} {base g n c size : Nat} {e : TypeId} {xs : List Value}
theorem own_prefix (h : w.ownsRow base e size (.slice (some ⟨g, 0, none⟩) n c) n xs) {i : Nat} (hi : i ≤ n) : w.ownsRow base e size (.slice (some ⟨g, 0, none⟩) i c) i (xs.take (i * size)) := by
  obtain ⟨h1, h2⟩ := h
  have hle : i * size ≤ n * size := Nat.mul_le_mul_right _ hi
  refine ⟨by rw [List.length_take, h1]; exact Nat.min_eq_left hle, ?_⟩
  rcases h2 with ⟨hv, _⟩ | ⟨g', cap, cur, hv, hb, hg, hnc, hcm, hcs, ht⟩
  · cases hv
  · injection hv with ha hb' hc
    injection ha with ha
    injection ha with ha
    subst ha; subst hc
    refine .inr ⟨g, c, cur, rfl, hb, hg, Nat.le_trans hi hnc, hcm, hcs, ?_⟩
    rw [← ht, List.take_take, Nat.min_eq_left hle]
theorem own_room (h : w.ownsRow base e size (.slice (some ⟨g, 0, none⟩) n c) n xs) : base ≤ g ∧ g < w.heap.size ∧ n ≤ c ∧ c ≤ maxLen ∧ ∀ j, j < c * size → (w.cell? ⟨g, j, none⟩).isSome = true ∧ w.frozen? ⟨g, j, none⟩ = false := by
  obtain ⟨h1, h2⟩ := h
  rcases h2 with ⟨hv, _⟩ | ⟨g', cap, cur, hv, hb, hg, hnc, hcm, hcs, ht⟩
  · cases hv
  · injection hv with ha hb' hc
    injection ha with ha
    injection ha with ha
    subst ha; subst hc
    refine ⟨hb, (Array.getElem?_eq_some_iff.1 hg).1, hnc, hcm, fun j hj => ⟨?_, frozen_of_row w g j cur e hg⟩⟩
    rw [cell_of_row w g j cur e (0, 0) hg, Array.getElem?_eq_getElem (by omega)]
    rfl
theorem own_set_beyond (h : w.ownsRow base e size (.slice (some ⟨g, 0, none⟩) n c) n xs) {o : Nat} (ho : n * size ≤ o) (u : Value) : (w.setCell ⟨g, o, none⟩ u).ownsRow base e size (.slice (some ⟨g, 0, none⟩) n c) n xs := by
  obtain ⟨h1, h2⟩ := h
  refine ⟨h1, ?_⟩
  rcases h2 with ⟨hv, _⟩ | ⟨g', cap, cur, hv, hb, hg, hnc, hcm, hcs, ht⟩
  · cases hv
  · injection hv with ha hb' hc
    injection ha with ha
    injection ha with ha
    subst ha; subst hc
    refine .inr ⟨g, c, cur.setIfInBounds o u, rfl, hb, blk_set hg o u, hnc, hcm, by rw [Array.size_setIfInBounds]; exact hcs, ?_⟩
    rw [Array.toList_setIfInBounds, List.take_set_of_le ho]
    exact ht
theorem own_setCells_beyond : ∀ (vs : List Value) {w : World} {o : Nat}, w.ownsRow base e size (.slice (some ⟨g, 0, none⟩) n c) n xs → n * size ≤ o → (w.setCells g o vs).ownsRow base e size (.slice (some ⟨g, 0, none⟩) n c) n xs
  | [], _, _, h, _ => h
  | v :: r, w, o, h, ho => by
    unfold World.setCells
    exact own_setCells_beyond r (own_set_beyond h ho v) (by omega)
theorem grownBy_setCells : ∀ (vs : List Value) {w0 w : World} {o : Nat}, w0.grownBy w (some g) → w0.grownBy (w.setCells g o vs) (some g)
  | [], _, _, _, h => h
  | v :: r, w0, w, o, h => by
    unfold World.setCells
    refine grownBy_setCells r ⟨h.os, h.tape, h.output, by simpa [World.setCell] using h.size, fun i hi hne => (Below.heap_setCell w ⟨g, o, none⟩ v i (by
      rintro rfl
      exact hne rfl)).trans (h.block i hi hne)⟩
end

/-- append where there is room, as a step of a region that draws: s is owned, x reads as news wherever it lies. -/
theorem step_append_fits {P : Program} {ops : Array Oper} {o : Oper} {a : Act} {w : World} {K : Act → World → Prop} {Q : Exit → Act → World → Prop} {E : Prop} (hgd : o.guard = none) (s x : Operand) (t : TypeId)
    (ho : o.op = Op.call { callee := Callee.builtin Builtin.append, args := #[s, x], argTypes := #[t, t] })
    (base : Nat) (e : TypeId) (i : TypeInfo) (size : Nat) (h1 : P.underlying t = some (.slice e)) (h2 : P.info? e = some i) (h4 : i.size = size)
    (g k cap : Nat) (xs : List Value) (hs : a.eval s = .slice (some ⟨g, 0, none⟩) k cap) (hown : w.ownsRow base e size (.slice (some ⟨g, 0, none⟩) k cap) k xs) (ao : Addr) (m c : Nat) (news : List Value) (hx : a.eval x = .slice (some ao) m c) (hn : news.length = m * size)
    (hc : ∀ j u, news[j]? = some u → w.cell? (ao.add j) = some u) (h1c : ∀ u ∈ news, u.oneCell' = true) (b1 : k + m ≤ cap)
    (hK : ∀ w', w'.ownsRow base e size (.slice (some ⟨g, 0, none⟩) (k + m) cap) (k + m) (xs ++ news) → w.grownBy w' (some g) → K (a.put o.dst (.slice (some ⟨g, 0, none⟩) (k + m) cap)) w') :
    if Region.wanted o (yielded ops a.tmps) = true then Oper.wp P o a w K Q else E := by
  have hw : Region.wanted o (yielded ops a.tmps) = true := by simp [Region.wanted, hgd]
  rw [if_pos hw]
  obtain ⟨w', hrun, r1, r2⟩ := run_append_fits (P := P) w base t o.type e i size h1 h2 h4 g k cap xs hown ao m c news hn hc h1c b1
  unfold Oper.wp
  simp [execOp, ho, resolve, invoke, builtin, hs, hx, hrun, Result.andThen]
  exact hK w' r1 r2

/-- 'clear(s)', s of one element of several cells. -/
theorem run_clear_one {P : Program} (w : World) (t e ty : TypeId) (z : Value) (ht : P.underlying t = some (.slice e)) (hv : ∀ w, (zeroValue e).run P w = .ok z w) (zs : List Value) (hz : z.cells.toList = zs) (hpos : 0 < zs.length) (h1 : ∀ u ∈ zs, u.oneCell' = true) (b o c : Nat)
    (hc : ∀ j, j < zs.length → (w.cell? ⟨b, o + j, none⟩).isSome = true) (hf : ∀ j, j < zs.length → w.frozen? ⟨b, o + j, none⟩ = false) :
    (Builtin.clear_ #[t] ty #[.slice (some ⟨b, o, none⟩) 1 c]).run P w = .ok (.tuple #[]) (w.setCells b o zs) := by
  have hzc : (Builtin.zeroCells z.cells 1).toList = zs := by
    subst hz
    simp [Builtin.zeroCells]
    apply List.ext_getElem
    · simp
    · intro i h1 h2
      simp at h1 h2
      simp [Nat.mod_eq_of_lt h2]
      exact getElem!_pos z.cells i h2
  have hst := run_storeCells_cells (P := P) b o zs 0 w (by simpa using hc) (by simpa using hf) h1
  simp only [Nat.add_zero] at hst
  simp [Builtin.clear_, run_underlying ht, hv, hzc, hst]
end Go.Proofs.Ytongakhcmdkeiaa
