/- Insert of one client: the walk. Conditions: those that each theorem states. -/
import Derived.Test.YtongakhcmdkeiaaClB
import Derived.Laws.CopyRow
import Derived.Laws.Externs
import Derived.Deep.RegionLaw
namespace Go.Proofs.Ytongakhcmdkeiaa
open Go.RowKit

def spl (L : List Value) (off : Nat) (cs : List Value) : List Value := L.take off ++ (cs ++ L.drop (off + cs.length))
theorem spl_length {L : List Value} {off : Nat} {cs : List Value} (h : off + cs.length ≤ L.length) : (spl L off cs).length = L.length := by simp [spl]; omega

theorem run_copy_size {P : Program} (w : World) (dT sT ty elem : TypeId) (g o dLen dCap : Nat) (a : Addr) (sLen sCap size : Nat) (cur : Array Value) (t : TypeId) (cs : List Value)
    (hu : P.underlying dT = some (.slice elem)) (hs : (P.info? elem).map (·.size) = some size)
    (hg : w.heap[g]? = some (.cells cur t (0, 0))) (hn : cs.length = Nat.min sLen dLen * size)
    (hsrc : ∀ j v, cs[j]? = some v → w.cell? (a.add j) = some v) (hfit : o + cs.length ≤ cur.size) (h1 : ∀ v ∈ cs, v.oneCell' = true) :
    (Builtin.copy_ #[dT, sT] ty #[.slice (some ⟨g, o, none⟩) dLen dCap, .slice (some a) sLen sCap]).run P w =
      .ok (goInt (Nat.min sLen dLen)) (w.setRow g (cur.toList.take o ++ cs ++ cur.toList.drop (o + cs.length)).toArray) := by
  have hl := run_loadCells_list (P := P) w a cs hsrc
  have hst := run_storeCells_at P g o t cs 0 cur w hg (by simpa using hfit) h1
  cases hq : P.info? elem with
  | none => simp [hq] at hs
  | some i =>
    have hi : i.size = size := by simpa [hq] using hs
    simp [Builtin.copy_, run_underlying hu, Builtin.lenOf, Builtin.firstCells, sizeOf, typeInfo, hq, hi, ← hn, hl, hst]

/-- 'copy' into what is owned: all is read ahead of what is written. -/
theorem run_copy_owned {P : Program} {w : World} {base g n c size : Nat} {e : TypeId} {xs : List Value} (dT sT ty : TypeId) (o dLen dCap : Nat) (a : Addr) (sLen sCap : Nat) (cs : List Value)
    (h : w.ownsRow base e size (.slice (some ⟨g, 0, none⟩) n c) n xs) (hu : P.underlying dT = some (.slice e)) (hs : (P.info? e).map (·.size) = some size) (hn : cs.length = Nat.min sLen dLen * size)
    (hsrc : ∀ j v, cs[j]? = some v → w.cell? (a.add j) = some v) (hfit : o + cs.length ≤ n * size) (h1 : ∀ v ∈ cs, v.oneCell' = true) :
    ∃ w', (Builtin.copy_ #[dT, sT] ty #[.slice (some ⟨g, o, none⟩) dLen dCap, .slice (some a) sLen sCap]).run P w = .ok (goInt (Nat.min sLen dLen)) w' ∧
      w'.ownsRow base e size (.slice (some ⟨g, 0, none⟩) n c) n (spl xs o cs) ∧ w.grownBy w' (some g) := by
  obtain ⟨hl, h2⟩ := h
  rcases h2 with ⟨hv, _⟩ | ⟨g', cap, cur, hv, hb, hg, hnc, hcm, hcs, ht⟩
  · cases hv
  · injection hv with ha hb' hc
    injection ha with ha
    injection ha with ha
    subst ha; subst hc
    have hle : n * size ≤ c * size := Nat.mul_le_mul_right _ hnc
    refine ⟨_, run_copy_size w dT sT ty e g o dLen dCap a sLen sCap size cur e cs hu hs hg hn hsrc (by omega) h1, ⟨?_, .inr ⟨g, c, _, rfl, hb, setRow_heap w g cur _ e _ hg, hnc, hcm, ?_, ?_⟩⟩, ?_⟩
    · rw [spl_length (by omega), hl]
    · simp; omega
    · rw [← ht]
      unfold spl
      rw [List.take_take, Nat.min_eq_left (by omega : o ≤ n * size)]
      rw [List.append_assoc, List.take_append, List.length_take, Array.length_toList]
      rw [Nat.min_eq_left (by omega : o ≤ cur.size), List.take_take, Nat.min_eq_right (by omega : o ≤ n * size)]
      rw [List.take_append]
      rw [List.take_of_length_le (by omega : cs.length ≤ n * size - o)]
      rw [List.drop_take]
      rw [show n * size - o - cs.length = n * size - (o + cs.length) by omega]
    · exact ⟨rfl, rfl, rfl, by simp [World.setRow], fun k hk hne => setRow_other w g k _ (fun e => hne (by rw [e]))⟩

/-- Owned: one element more, where there is room: whatever stands there. -/
theorem own_one_more {w : World} {base g n c size : Nat} {e : TypeId} {xs : List Value} (h : w.ownsRow base e size (.slice (some ⟨g, 0, none⟩) n c) n xs) (hr : n + 1 ≤ c) :
    ∃ ys, w.ownsRow base e size (.slice (some ⟨g, 0, none⟩) (n + 1) c) (n + 1) (xs ++ ys) ∧ ys.length = size := by
  obtain ⟨hl, h2⟩ := h
  rcases h2 with ⟨hv, _⟩ | ⟨g', cap, cur, hv, hb, hg, hnc, hcm, hcs, ht⟩
  · cases hv
  · injection hv with ha hb' hc
    injection ha with ha
    injection ha with ha
    subst ha; subst hc
    have hle : (n + 1) * size ≤ c * size := Nat.mul_le_mul_right _ hr
    have e1 : (n + 1) * size = n * size + size := Nat.succ_mul n size
    refine ⟨(cur.toList.drop (n * size)).take size, ⟨?_, .inr ⟨g, c, cur, rfl, hb, hg, hr, hcm, hcs, ?_⟩⟩, ?_⟩
    · simp [hl]; omega
    · rw [← ht, e1, List.take_add]
    · simp; omega
theorem wpList_copy_run_ {P : Program} (w : World) {ops : Array Oper} {rest : List Oper} {o : Oper} {a : Act} {Q : Exit → Act → World → Prop} (hgd : o.guard = none) (d s : Operand) (t t' : TypeId)
    (ho : o.op = .call { callee := .builtin .copy, args := #[d, s], argTypes := #[t, t'] }) (v u : Value) (hd : a.eval d = v) (hs : a.eval s = u) {v' : Value} {w' : World}
    (hr : (Builtin.copy_ #[t, t'] o.type #[v, u]).run P w = .ok v' w') (h : wpList P ops Q rest (a.put o.dst v') w') : wpList P ops Q (o :: rest) a w := by
  refine wpList_plain hgd fun K hK => ?_
  unfold Oper.wp execOp
  simp only [ho, resolve, invoke, builtin, Sem.run_bind, Sem.run_pure, Result.andThen_ok, List.map_toArray, List.map_cons, List.map_nil, hd, hs, hr]
  exact hK _ _ h
theorem step_copy_run_ {P : Program} {ops : Array Oper} {o : Oper} {a : Act} {w : World} {K : Act → World → Prop} {Q : Exit → Act → World → Prop} {E : Prop}
    (hg : o.guard = none) (d x : Operand) (dT sT : TypeId) (hop : o.op = Op.call { callee := Callee.builtin Builtin.copy, args := #[d, x], argTypes := #[dT, sT] })
    (v u : Value) (hd : a.eval d = v) (hx : a.eval x = u) {v' : Value} {w' : World} (hr : (Builtin.copy_ #[dT, sT] o.type #[v, u]).run P w = .ok v' w') (hK : K (a.put o.dst v') w') :
    if Region.wanted o (yielded ops a.tmps) = true then Oper.wp P o a w K Q else E := by
  have hw : Region.wanted o (yielded ops a.tmps) = true := by simp [Region.wanted, hg]
  rw [if_pos hw]
  unfold Oper.wp
  simp [execOp, hop, resolve, invoke, builtin, hd, hx, hr, Result.andThen]
  exact hK

/-- What Insert of one leaves. -/
def insV (xs vs : List Value) (i : Nat) : List Value := xs.take (i * 3) ++ vs ++ xs.drop (i * 3)
theorem ins_shift {xs ys vs : List Value} {n i : Nat} (hl : xs.length = n * 3) (hy : ys.length = 3) (hv : vs.length = 3) (hi : i ≤ n) : spl (spl (xs ++ ys) ((i + 1) * 3) (xs.drop (i * 3))) (i * 3) vs = insV xs vs i := by
  unfold spl insV
  have h1 : (xs.drop (i * 3)).length = n * 3 - i * 3 := by rw [List.length_drop, hl]
  rw [h1, hv]
  rw [show (i + 1) * 3 + (n * 3 - i * 3) = n * 3 + 3 by omega]
  rw [List.drop_of_length_le (l := xs ++ ys) (by simp [hl, hy]; try omega), List.append_nil]
  have h2 : ((xs ++ ys).take ((i + 1) * 3)).length = (i + 1) * 3 := by simp [hl, hy]; omega
  rw [show i * 3 + 3 = (i + 1) * 3 by omega]
  rw [List.take_append_of_le_length (by rw [h2]; omega), List.take_take, Nat.min_eq_left (by omega), List.take_append_of_le_length (by omega)]
  rw [List.drop_left' h2, List.append_assoc]
theorem ins_grow {xs zs vs : List Value} {n i : Nat} (hl : xs.length = n * 3) (hz : zs.length = (n + 1) * 3 - i * 3) (hv : vs.length = 3) (hi : i ≤ n) : spl (spl (xs.take (i * 3) ++ zs) (i * 3) vs) ((i + 1) * 3) (xs.drop (i * 3)) = insV xs vs i := by
  unfold spl insV
  have h1 : (xs.drop (i * 3)).length = n * 3 - i * 3 := by rw [List.length_drop, hl]
  have h0 : (xs.take (i * 3)).length = i * 3 := by rw [List.length_take, hl]; omega
  rw [h1, hv]
  rw [show (i + 1) * 3 + (n * 3 - i * 3) = n * 3 + 3 by omega]
  rw [List.take_left' h0, show i * 3 + 3 = i * 3 + 3 from rfl]
  rw [List.drop_of_length_le (l := _ ++ (vs ++ _)) (by simp [hl, hz, hv]; omega), List.append_nil]
  have h3 : (xs.take (i * 3) ++ vs).length = (i + 1) * 3 := by rw [List.length_append, h0, hv]; omega
  rw [← List.append_assoc, List.take_left' h3]
end Go.Proofs.Ytongakhcmdkeiaa
