/-
  append onto a slice literal that was just made, empty or not: no ownership of the empty literal's block is asked.
  Conditions: those that each theorem states.
-/
import Derived.Test.YtongakhcmdkeiaaDraw
import Derived.Deep.RegionLaw
import Derived.Deep.RegionLawGrows
namespace Go.Proofs.Ytongakhcmdkeiaa
open Go.RowKit

/-- Owned where it has elements; else of no capacity. -/
def OwnE (w : World) (base : Nat) (e : TypeId) (size : Nat) (A : Option Addr) (n c : Nat) (xs : List Value) : Prop :=
  (n = 0 → c = 0 ∧ xs = [] ∧ ∃ g, A = some ⟨g, 0, none⟩) ∧ (0 < n → w.ownsRow base e size (.slice A n c) n xs)
theorem OwnE.empty (w : World) (base : Nat) (e : TypeId) (size : Nat) (b : Nat) : OwnE w base e size (some ⟨b, 0, none⟩) 0 0 [] := ⟨fun _ => ⟨rfl, rfl, b, rfl⟩, fun h => absurd h (Nat.lt_irrefl _)⟩
theorem OwnE.below {w w' : World} {base size n c K : Nat} {e : TypeId} {A : Option Addr} {xs : List Value} (h : OwnE w base e size A n c xs) (hb : Below K w w') (hK : w.heap.size ≤ K) : OwnE w' base e size A n c xs :=
  ⟨h.1, fun hn => own_below (h.2 hn) hb hK⟩
theorem OwnE.alloc {w : World} {base size n c : Nat} {e : TypeId} {A : Option Addr} {xs : List Value} (h : OwnE w base e size A n c xs) (o : Obj) : OwnE (w.alloc o) base e size A n c xs :=
  ⟨h.1, fun hn => (h.2 hn).alloc o⟩
theorem OwnE.drew {w : World} {base size n c : Nat} {e : TypeId} {A : Option Addr} {xs : List Value} (h : OwnE w base e size A n c xs) : OwnE w.drew base e size A n c xs := ⟨h.1, fun hn => (h.2 hn).drew⟩
theorem OwnE.reads {w : World} {base size n c : Nat} {e : TypeId} {A : Option Addr} {xs : List Value} (h : OwnE w base e size A n c xs) : Reads w w.heap.size size A n c xs := by
  rcases Nat.eq_zero_or_pos n with h0 | h0
  · subst h0
    obtain ⟨rfl, rfl, hA⟩ := h.1 rfl
    exact ⟨by simp, Nat.le_refl _, by simp [maxLen], fun _ => rfl, fun hn => absurd hn (Nat.lt_irrefl _)⟩
  · exact Reads.of_own (h.2 h0)

theorem run_append_E {P : Program} (w : World) (base : Nat) (t ty e : TypeId) (i : TypeInfo) (z : Value) (size bytes : Nat) (ht : P.underlying t = some (.slice e)) (hi : P.info? e = some i) (hz : i.zero = some z)
    (hsize : i.size = size) (hby : i.bytes = bytes) (hzs : z.cells.size = size) (hsz : 0 < size)
    (A : Option Addr) (n c0 : Nat) (xs : List Value) (hown : OwnE w base e size A n c0 xs)
    (B : Nat) (Ax : Option Addr) (m c : Nat) (news : List Value) (hr : Reads w B size Ax m c news) (h1 : ∀ u ∈ news, u.oneCell' = true)
    (h63 : n + m ≤ maxLen) (hbytes : (n + m) * bytes ≤ 140737488355328) (hbase : base ≤ w.heap.size) :
    ∃ A' c' w', (Builtin.append_ #[t, t] ty #[.slice A n c0, .slice Ax m c]).run P w = .ok (.slice A' (n + m) c') w' ∧ OwnE w' base e size A' (n + m) c' (xs ++ news) ∧ w.grownBy w' (Value.slice A n c0).ownBlock ∧ Below base w w' := by
  rcases Nat.eq_zero_or_pos n with h0 | h0
  · subst h0
    obtain ⟨rfl, rfl, b, rfl⟩ := hown.1 rfl
    rcases Nat.eq_zero_or_pos m with hm | hm
    · subst hm
      have hn : news = [] := List.eq_nil_of_length_eq_zero (by simpa using hr.1)
      subst hn
      refine ⟨some ⟨b, 0, none⟩, 0, w, ?_, OwnE.empty w base e size b, World.grownBy.refl w _, Below.refl _ _⟩
      rcases Ax with _ | ad
      · simp [Builtin.append_, run_underlying ht, sizeOf, typeInfo, hi, Builtin.lenOf, Builtin.firstCells, storeCells]
      · simp [Builtin.append_, run_underlying ht, sizeOf, typeInfo, hi, Builtin.lenOf, Builtin.firstCells, storeCells, loadCells, loadCellsFrom]
    · obtain ⟨b2, o2, rfl, hb2, hc2⟩ := hr.2.2.2.2 hm
      obtain ⟨v', w', hrun, r1, r2⟩ := run_append_arg_grows (P := P) w t ty e i z size bytes ht hi hz hsize hby hzs hsz ⟨b, 0, none⟩ 0 0 [] (by simp) (by intro j u hu; simp at hu) ⟨b2, o2, none⟩ m c news hr.1 (fun j u hu => by rw [add_lit]; exact hc2 j u hu) (by omega) h63 hbytes
      obtain ⟨A', c', rfl⟩ := own_form r1
      exact ⟨A', c', w', hrun, ⟨fun h => by omega, fun _ => own_more r1 hbase⟩, ⟨r2.os, r2.tape, r2.output, r2.size, fun k hk _ => r2.block k hk (by simp)⟩, (Below.refl base w).grown r2 hbase fun k hk => by cases hk⟩
  · obtain ⟨v', w', hrun, r1, r2, r3⟩ := run_append_reads (P := P) w base t ty e i z size bytes ht hi hz hsize hby hzs hsz (.slice A n c0) n xs (hown.2 h0) B Ax m c news hr h1 h63 hbytes hbase
    obtain ⟨A', c', rfl⟩ := own_form r1
    exact ⟨A', c', w', hrun, ⟨fun h => by omega, fun _ => r1⟩, r2, (Below.refl base w).grown r2 hbase fun k hk => ((hown.2 h0).lt k hk).1⟩

/-- The same as a step of a region that draws its order. -/
theorem step_append_E {P : Program} {ops : Array Oper} {o : Oper} {a : Act} {w : World} {K : Act → World → Prop} {Q : Exit → Act → World → Prop} {E : Prop} (hgd : o.guard = none) (s x : Operand) (t : TypeId)
    (ho : o.op = .call { callee := .builtin .append, args := #[s, x], argTypes := #[t, t] })
    (base : Nat) (e : TypeId) (i : TypeInfo) (z : Value) (size bytes : Nat) (ht : P.underlying t = some (.slice e)) (hi : P.info? e = some i) (hz : i.zero = some z)
    (hsize : i.size = size) (hby : i.bytes = bytes) (hzs : z.cells.size = size) (hsz : 0 < size)
    (A : Option Addr) (n c0 : Nat) (xs : List Value) (hs : a.eval s = .slice A n c0) (hown : OwnE w base e size A n c0 xs)
    (B : Nat) (Ax : Option Addr) (m c : Nat) (news : List Value) (hx : a.eval x = .slice Ax m c) (hr : Reads w B size Ax m c news) (h1 : ∀ u ∈ news, u.oneCell' = true)
    (h63 : n + m ≤ maxLen) (hbytes : (n + m) * bytes ≤ 140737488355328) (hbase : base ≤ w.heap.size)
    (h : ∀ A' c' w', OwnE w' base e size A' (n + m) c' (xs ++ news) → w.grownBy w' (Value.slice A n c0).ownBlock → Below base w w' → K (a.put o.dst (.slice A' (n + m) c')) w') :
    if Region.wanted o (yielded ops a.tmps) = true then Oper.wp P o a w K Q else E := by
  have hw : Region.wanted o (yielded ops a.tmps) = true := by simp [Region.wanted, hgd]
  rw [if_pos hw]
  obtain ⟨A', c', w', hrun, h2, h3, h4⟩ := run_append_E (P := P) w base t o.type e i z size bytes ht hi hz hsize hby hzs hsz A n c0 xs hown B Ax m c news hr h1 h63 hbytes hbase
  unfold Oper.wp execOp
  simp only [ho, resolve, invoke, builtin, Sem.run_bind, Sem.run_pure, Result.andThen_ok, List.map_toArray, List.map_cons, List.map_nil, hs, hx, hrun]
  exact h A' c' w' h2 h3 h4

/-- append onto an empty literal: no block that is there turns. -/
theorem step_append_0 {P : Program} {ops : Array Oper} {o : Oper} {a : Act} {w : World} {K : Act → World → Prop} {Q : Exit → Act → World → Prop} {E : Prop} (hgd : o.guard = none) (s x : Operand) (t : TypeId)
    (ho : o.op = .call { callee := .builtin .append, args := #[s, x], argTypes := #[t, t] })
    (base : Nat) (e : TypeId) (i : TypeInfo) (z : Value) (size bytes : Nat) (ht : P.underlying t = some (.slice e)) (hi : P.info? e = some i) (hz : i.zero = some z)
    (hsize : i.size = size) (hby : i.bytes = bytes) (hzs : z.cells.size = size) (hsz : 0 < size)
    (b : Nat) (hs : a.eval s = .slice (some ⟨b, 0, none⟩) 0 0)
    (B : Nat) (Ax : Option Addr) (m c : Nat) (news : List Value) (hx : a.eval x = .slice Ax m c) (hr : Reads w B size Ax m c news) (h1 : ∀ u ∈ news, u.oneCell' = true)
    (h63 : m ≤ maxLen) (hbytes : m * bytes ≤ 140737488355328) (hbase : base ≤ w.heap.size)
    (h : ∀ A' c' w', OwnE w' base e size A' m c' news → Below w.heap.size w w' → K (a.put o.dst (.slice A' m c')) w') :
    if Region.wanted o (yielded ops a.tmps) = true then Oper.wp P o a w K Q else E := by
  have hw : Region.wanted o (yielded ops a.tmps) = true := by simp [Region.wanted, hgd]
  rw [if_pos hw]
  obtain ⟨A', c', w', hrun, h2, h3, h4⟩ := run_append_E (P := P) w w.heap.size t o.type e i z size bytes ht hi hz hsize hby hzs hsz (some ⟨b, 0, none⟩) 0 0 [] (OwnE.empty w _ e size b) B Ax m c news hr h1 (by omega) (by rw [Nat.zero_add]; exact hbytes) (Nat.le_refl _)
  rw [Nat.zero_add, List.nil_append] at h2
  rw [Nat.zero_add] at hrun
  unfold Oper.wp execOp
  simp only [ho, resolve, invoke, builtin, Sem.run_bind, Sem.run_pure, Result.andThen_ok, List.map_toArray, List.map_cons, List.map_nil, hs, hx, hrun]
  exact h A' c' w' ⟨h2.1, fun hm => own_more (h2.2 hm) hbase⟩ h4

theorem Reads.drop_ {w : World} {B size n c b o : Nat} {xs : List Value} (h : Reads w B size (some ⟨b, o, none⟩) n c xs) {k : Nat} (hk : k ≤ n) : ∃ A : Addr, (if c = k then some (⟨b, o, none⟩ : Addr) else some ⟨b, o + k * size, none⟩) = some A ∧ Reads w B size (some A) (n - k) (c - k) (xs.drop (k * size)) := by
  have hl := h.1
  have hle := h.le
  have hmx := h.2.2.1
  have hlen : (xs.drop (k * size)).length = (n - k) * size := by rw [List.length_drop, hl, Nat.sub_mul]
  by_cases hc : c = k
  · refine ⟨⟨b, o, none⟩, by simp [hc], hlen, by omega, by omega, fun h => (by cases h), fun hn => by omega⟩
  · refine ⟨⟨b, o + k * size, none⟩, by simp [hc], hlen, by omega, by omega, fun h => (by cases h), fun hn => ?_⟩
    obtain ⟨b', o', e, hb, hcell⟩ := h.2.2.2.2 (by omega)
    cases e
    exact ⟨b, o + k * size, rfl, hb, fun j u hu => by
      rw [List.getElem?_drop] at hu
      rw [Nat.add_assoc]
      exact hcell _ _ hu⟩
end Go.Proofs.Ytongakhcmdkeiaa
