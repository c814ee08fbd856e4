/-
  Words of memory that the proofs of this seat share: a slice that reads as a list of cells; a slice that the call owns; append, make and copy on them.
  Conditions: none beyond those that each theorem states.
-/
import Derived.WalkKit
import Derived.WalkLawsBesides
import Derived.WalkSpells
import Derived.Lib.Hide
import Derived.BigQuiet
import Derived.Deep.QuietTactic
import Derived.Deep.Draws
import Derived.Deep.AppendLies
import Derived.Maps.AppendAt
import Derived.RegionTactic
import Derived.BigRegion
import Derived.Laws.CopyOwn
namespace Go.Proofs.Ytongakhcmdkeiaa
open Go.RowKit

theorem ret_int {k : IntKind} {a b : Int} (h : a = b) : Ending.returned (.int k a) = Ending.returned (.int k b) := by rw [h]
theorem ret_bool {a b : Bool} (h : a = b) : Ending.returned (.bool a) = Ending.returned (.bool b) := by rw [h]

theorem take_snoc {α : Type} {l : List α} {k : Nat} {x : α} (h : l[k]? = some x) : l.take (k + 1) = l.take k ++ [x] := by
  obtain ⟨hk, rfl⟩ := List.getElem?_eq_some_iff.1 h
  exact List.take_succ_eq_append_getElem hk

theorem add_lit (b o j : Nat) : (⟨b, o, none⟩ : Addr).add j = ⟨b, o + j, none⟩ := by
  unfold Addr.add; split <;> simp_all

theorem cell_block {w : World} {b o : Nat} {u : Value} (h : w.cell? ⟨b, o, none⟩ = some u) : b < w.heap.size := World.block_lt_of_cell? w ⟨b, o, none⟩ h

theorem below_drewN {B : Nat} {a w : World} (h : Below B a w) (n : Nat) : Below B a (w.drewN n) := ⟨h.os, h.tape, h.output, h.size, h.block⟩

/-- The slice value '.slice A n c' reads as the cells xs, 'size' a place; where it has elements it lies below block B. -/
def Reads (w : World) (B size : Nat) (A : Option Addr) (n c : Nat) (xs : List Value) : Prop :=
  xs.length = n * size ∧ n ≤ c ∧ c ≤ maxLen ∧ (A = none → c = 0) ∧
    (0 < n → ∃ b o, A = some ⟨b, o, none⟩ ∧ b < B ∧ ∀ j u, xs[j]? = some u → w.cell? ⟨b, o + j, none⟩ = some u)

section
variable {w w' : World} {B B' size n c : Nat} {A : Option Addr} {xs : List Value}
theorem Reads.nil_ (w : World) (B size : Nat) : Reads w B size none 0 0 [] := ⟨by simp, Nat.le_refl _, by simp [maxLen], fun _ => rfl, fun h => absurd h (by omega)⟩
theorem Reads.len (h : Reads w B size A n c xs) : xs.length = n * size := h.1
theorem Reads.le (h : Reads w B size A n c xs) : n ≤ c := h.2.1
theorem Reads.max (h : Reads w B size A n c xs) : c ≤ 9223372036854775807 := by have := h.2.2.1; simpa [maxLen] using this
theorem Reads.big (h : Reads w B size A n c xs) : n ≤ 9223372036854775807 := Nat.le_trans h.le h.max
theorem Reads.keep (h : Reads w B size A n c xs) (hk : ∀ p : Addr, p.block < B → w'.cell? p = w.cell? p) : Reads w' B size A n c xs :=
  ⟨h.1, h.2.1, h.2.2.1, h.2.2.2.1, fun hn => by
    obtain ⟨b, o, e, hb, hc⟩ := h.2.2.2.2 hn
    exact ⟨b, o, e, hb, fun j u hu => (hk ⟨b, o + j, none⟩ hb).trans (hc j u hu)⟩⟩
theorem Reads.more (h : Reads w B size A n c xs) (hB : B ≤ B') : Reads w B' size A n c xs :=
  ⟨h.1, h.2.1, h.2.2.1, h.2.2.2.1, fun hn => by
    obtain ⟨b, o, e, hb, hc⟩ := h.2.2.2.2 hn
    exact ⟨b, o, e, by omega, hc⟩⟩
theorem Reads.here (h : Reads w B size A n c xs) (hs : 0 < size) : Reads w w.heap.size size A n c xs :=
  ⟨h.1, h.2.1, h.2.2.1, h.2.2.2.1, fun hn => by
    obtain ⟨b, o, e, _, hc⟩ := h.2.2.2.2 hn
    have h1 := h.1
    have hl : 0 < xs.length := by rw [h1]; exact Nat.mul_pos hn hs
    exact ⟨b, o, e, cell_block (hc 0 _ (List.getElem?_eq_getElem hl)), hc⟩⟩
theorem Reads.below (h : Reads w B size A n c xs) (hb : Below B w w') : Reads w' B size A n c xs := h.keep fun _ hp => hb.cell hp
theorem Reads.next (h : Reads w w.heap.size size A n c xs) (hb : Below w.heap.size w w') : Reads w' w'.heap.size size A n c xs := (h.below hb).more hb.size
theorem below_next {v : World} (h : Below v.heap.size v w) (hb : Below w.heap.size w w') : Below v.heap.size v w' := h.trans (hb.mono h.size)
theorem Reads.drew (h : Reads w B size A n c xs) : Reads w.drew B size A n c xs := h
theorem Reads.drewN (h : Reads w B size A n c xs) (k : Nat) : Reads (w.drewN k) B size A n c xs := h
theorem Reads.alloc (h : Reads w B size A n c xs) (hB : B ≤ w.heap.size) (o : Obj) : Reads (w.alloc o) B size A n c xs := h.keep fun p hp => World.cell?_alloc_lt w o p (by omega)
theorem Reads.take (h : Reads w B size A n c xs) {k : Nat} (hk : k ≤ n) (_hs : 0 < size) : Reads w B size A k c (xs.take (k * size)) := by
  refine ⟨?_, Nat.le_trans hk h.le, h.2.2.1, h.2.2.2.1, fun hn => ?_⟩
  · rw [List.length_take, h.len]; exact Nat.min_eq_left (Nat.mul_le_mul_right _ hk)
  · obtain ⟨b, o, e, hb, hc⟩ := h.2.2.2.2 (by omega)
    refine ⟨b, o, e, hb, fun j u hu => hc j u ?_⟩
    rw [List.getElem?_take] at hu
    split at hu
    · exact hu
    · cases hu
theorem Reads.of_own {base : Nat} {e : TypeId} (h : w.ownsRow base e size (.slice A n c) n xs) : Reads w w.heap.size size A n c xs := by
  obtain ⟨h1, h2⟩ := h
  rcases h2 with ⟨hv, hn⟩ | ⟨g, cap, cur, hv, hb, hg, hnc, hcm, hcs, ht⟩
  · injection hv with ha hb hc
    subst ha; subst hc; subst hb
    exact ⟨h1, Nat.le_refl _, by simp [maxLen], fun _ => rfl, fun h => absurd h (by omega)⟩
  · injection hv with ha hb' hc
    subst ha; subst hc
    refine ⟨h1, hnc, hcm, fun h => (by cases h), fun hn => ⟨g, 0, rfl, (Array.getElem?_eq_some_iff.1 hg).1, fun j u hu => ?_⟩⟩
    rw [Nat.zero_add, cell_of_row w g j cur e (0, 0) hg]
    rw [← ht, List.getElem?_take] at hu
    split at hu
    · simpa using hu
    · cases hu
theorem Reads.new (w : World) (cs : Array Value) (e : TypeId) (size n : Nat) (hs : cs.size = n * size) (hm : n ≤ maxLen) :
    Reads (w.alloc (.cells cs e)) (w.heap.size + 1) size (some ⟨w.heap.size, 0, none⟩) n n cs.toList := by
  have := Reads.of_own (World.ownsRow_lit (w := w) (base := 0) (e := e) (size := size) cs n (Nat.zero_le _) hm hs)
  simpa using this

/-- What is owned, at a place that is there. -/
theorem own_at {base : Nat} {e : TypeId} {j : Nat} {u : Value} (h : w.ownsRow base e size (.slice A n c) n xs) (hu : xs[j]? = some u) :
    ∃ g, A = some ⟨g, 0, none⟩ ∧ base ≤ g ∧ g < w.heap.size ∧ w.cell? ⟨g, j, none⟩ = some u ∧ w.frozen? ⟨g, j, none⟩ = false := by
  obtain ⟨h1, h2⟩ := h
  rcases h2 with ⟨hv, hn⟩ | ⟨g, cap, cur, hv, hb, hg, hnc, hcm, hcs, ht⟩
  · subst hn
    have : xs = [] := List.eq_nil_of_length_eq_zero (by simpa using h1)
    subst this
    simp at hu
  · injection hv with ha hb' hc
    subst ha; subst hc
    refine ⟨g, rfl, hb, (Array.getElem?_eq_some_iff.1 hg).1, ?_, frozen_of_row w g j cur e hg⟩
    rw [cell_of_row w g j cur e (0, 0) hg]
    rw [← ht, List.getElem?_take] at hu
    split at hu
    · simpa using hu
    · cases hu
theorem own_lt {base g : Nat} {e : TypeId} {v : Value} (h : w.ownsRow base e size v n xs) (hg : v.ownBlock = some g) : base ≤ g ∧ g < w.heap.size := h.lt g hg
theorem own_below {base : Nat} {e : TypeId} {v : Value} {K : Nat} (h : w.ownsRow base e size v n xs) (hb : Below K w w') (hK : w.heap.size ≤ K) : w'.ownsRow base e size v n xs := by
  obtain ⟨h1, h2⟩ := h
  refine ⟨h1, ?_⟩
  rcases h2 with h2 | ⟨g, cap, cur, hv, hb', hg, r⟩
  · exact .inl h2
  · exact .inr ⟨g, cap, cur, hv, hb', by rw [hb.block g (Nat.lt_of_lt_of_le (Array.getElem?_eq_some_iff.1 hg).1 hK)]; exact hg, r⟩
theorem own_more {base base' : Nat} {e : TypeId} {v : Value} (h : w.ownsRow base e size v n xs) (hb : base' ≤ base) : w.ownsRow base' e size v n xs := by
  obtain ⟨h1, h2⟩ := h
  refine ⟨h1, ?_⟩
  rcases h2 with h2 | ⟨g, cap, cur, hv, hb', r⟩
  · exact .inl h2
  · exact .inr ⟨g, cap, cur, hv, by omega, r⟩
theorem own_len {base : Nat} {e : TypeId} {v : Value} (h : w.ownsRow base e size v n xs) : xs.length = n * size := h.1
theorem own_form {base : Nat} {e : TypeId} {v : Value} (h : w.ownsRow base e size v n xs) : ∃ A c, v = .slice A n c := by
  obtain ⟨_, h2⟩ := h
  rcases h2 with ⟨rfl, rfl⟩ | ⟨g, cap, cur, rfl, _⟩
  · exact ⟨_, _, rfl⟩
  · exact ⟨_, _, rfl⟩
theorem own_keepBut {base : Nat} {e : TypeId} {v : Value} {row : Option Nat} (h : w.ownsRow base e size v n xs) (hg : w.grownBy w' row) (hr : ∀ g, v.ownBlock = some g → row ≠ some g) : w'.ownsRow base e size v n xs :=
  h.kept hg (by
    cases hv : v.ownBlock with
    | none => exact .inl rfl
    | some g => exact .inr (fun e => hr g hv e.symm))
theorem Reads.grown (h : Reads w B size A n c xs) {row : Option Nat} (hg : w.grownBy w' row) (hB : B ≤ w.heap.size) (hr : ∀ g, row = some g → B ≤ g) : Reads w' B size A n c xs :=
  h.keep fun p hp => World.cell?_of_block (hg.block p.block (by omega) (fun e => by have := hr _ e.symm; omega))
theorem Reads.setCell (h : Reads w B size A n c xs) {p : Addr} (hB : B ≤ p.block) (u : Value) : Reads (w.setCell p u) B size A n c xs :=
  h.keep fun q hq => World.cell?_setCell_other w p q u (fun e => by subst e; omega)
end

/-- append of nothing out of nil. -/
theorem run_append_of_nil {P : Program} (w : World) (base : Nat) (t ty e : TypeId) (i : TypeInfo) (size : Nat) (ht : P.underlying t = some (.slice e)) (hi : P.info? e = some i)
    (v : Value) (n : Nat) (xs : List Value) (hown : w.ownsRow base e size v n xs) (c : Nat) : (Builtin.append_ #[t, t] ty #[v, .slice none 0 c]).run P w = .ok v w := by
  rcases hown.2 with ⟨rfl, rfl⟩ | ⟨g, cap, cur, rfl, _, _, hnc, _⟩
  · simp [Builtin.append_, run_underlying ht, sizeOf, typeInfo, hi, Builtin.lenOf, Builtin.firstCells]
  · simp [Builtin.append_, run_underlying ht, sizeOf, typeInfo, hi, Builtin.lenOf, Builtin.firstCells, hnc, storeCells]

theorem run_append_reads {P : Program} (w : World) (base : Nat) (t ty e : TypeId) (i : TypeInfo) (z : Value) (size bytes : Nat) (ht : P.underlying t = some (.slice e)) (hi : P.info? e = some i) (hz : i.zero = some z)
    (hsize : i.size = size) (hby : i.bytes = bytes) (hzs : z.cells.size = size) (hsz : 0 < size)
    (v : Value) (n : Nat) (xs : List Value) (hown : w.ownsRow base e size v n xs)
    (B : Nat) (A : Option Addr) (m c : Nat) (news : List Value) (hr : Reads w B size A m c news) (h1 : ∀ u ∈ news, u.oneCell' = true)
    (h63 : n + m ≤ maxLen) (hbytes : (n + m) * bytes ≤ 140737488355328) (hbase : base ≤ w.heap.size) :
    ∃ v' w', (Builtin.append_ #[t, t] ty #[v, .slice A m c]).run P w = .ok v' w' ∧ w'.ownsRow base e size v' (n + m) (xs ++ news) ∧ w.grownBy w' v.ownBlock ∧
      (v'.ownBlock = v.ownBlock ∨ v'.ownBlock = some w.heap.size) := by
  rcases A with _ | ad
  · have hm : m = 0 := by have := hr.le; have := hr.2.2.2.1 rfl; omega
    subst hm
    have hn : news = [] := List.eq_nil_of_length_eq_zero (by simpa using hr.1)
    subst hn
    exact ⟨v, w, run_append_of_nil w base t ty e i size ht hi v n xs hown c, by simpa using hown, World.grownBy.refl w _, .inl rfl⟩
  · have hcells : ∀ j u, news[j]? = some u → w.cell? (ad.add j) = some u := by
      intro j u hu
      rcases Nat.eq_zero_or_pos m with h0 | h0
      · subst h0
        have hn : news = [] := List.eq_nil_of_length_eq_zero (by simpa using hr.1)
        subst hn
        simp at hu
      · obtain ⟨b, o, h, _, hc⟩ := hr.2.2.2.2 h0
        injection h with h
        subst h
        rw [add_lit]
        exact hc j u hu
    obtain ⟨v', w', hrun, h2, h3, _, h5⟩ := run_append_own_at (P := P) w base t ty e i z size bytes ht hi hz hsize hby hzs hsz v n xs hown ad m c news hr.1 hcells h1 h63 hbytes hbase
    exact ⟨v', w', hrun, h2, h3, h5⟩

/-- 'append(s, x...)' where s is owned and x reads as news. -/
theorem wp_append_reads {P : Program} (w : World) {o : Oper} {a : Act} {K : Act → World → Prop} {Q : Exit → Act → World → Prop} (s x : Operand) (t : TypeId)
    (ho : o.op = .call { callee := .builtin .append, args := #[s, x], argTypes := #[t, t] })
    (base : Nat) (e : TypeId) (i : TypeInfo) (z : Value) (size bytes : Nat) (ht : P.underlying t = some (.slice e)) (hi : P.info? e = some i) (hz : i.zero = some z)
    (hsize : i.size = size) (hby : i.bytes = bytes) (hzs : z.cells.size = size) (hsz : 0 < size)
    (v : Value) (n : Nat) (xs : List Value) (hs : a.eval s = v) (hown : w.ownsRow base e size v n xs)
    (B : Nat) (A : Option Addr) (m c : Nat) (news : List Value) (hx : a.eval x = .slice A m c) (hr : Reads w B size A m c news) (h1 : ∀ u ∈ news, u.oneCell' = true)
    (h63 : n + m ≤ maxLen) (hbytes : (n + m) * bytes ≤ 140737488355328) (hbase : base ≤ w.heap.size)
    (h : ∀ A' c' w', w'.ownsRow base e size (.slice A' (n + m) c') (n + m) (xs ++ news) → w.grownBy w' v.ownBlock → Below base w w' → ((Value.slice A' (n + m) c').ownBlock = v.ownBlock ∨ (Value.slice A' (n + m) c').ownBlock = some w.heap.size) → K (a.put o.dst (.slice A' (n + m) c')) w') : o.wp P a w K Q := by
  obtain ⟨v', w', hrun, h2, h3, h4⟩ := run_append_reads (P := P) w base t o.type e i z size bytes ht hi hz hsize hby hzs hsz v n xs hown B A m c news hr h1 h63 hbytes hbase
  obtain ⟨A', c', rfl⟩ := own_form h2
  unfold Oper.wp execOp
  simp only [ho, resolve, invoke, builtin, Sem.run_bind, Sem.run_pure, Result.andThen_ok, List.map_toArray, List.map_cons, List.map_nil, hs, hx, hrun]
  exact h A' c' w' h2 h3 ((Below.refl base w).grown h3 hbase fun k hk => (hown.lt k hk).1) h4

theorem wpList_append_reads {P : Program} (w : World) {ops : Array Oper} {rest : List Oper} {o : Oper} {a : Act} {Q : Exit → Act → World → Prop} (hgd : o.guard = none) (s x : Operand) (t : TypeId)
    (ho : o.op = .call { callee := .builtin .append, args := #[s, x], argTypes := #[t, t] })
    (base : Nat) (e : TypeId) (i : TypeInfo) (z : Value) (size bytes : Nat) (ht : P.underlying t = some (.slice e)) (hi : P.info? e = some i) (hz : i.zero = some z)
    (hsize : i.size = size) (hby : i.bytes = bytes) (hzs : z.cells.size = size) (hsz : 0 < size)
    (v : Value) (n : Nat) (xs : List Value) (hs : a.eval s = v) (hown : w.ownsRow base e size v n xs)
    (B : Nat) (A : Option Addr) (m c : Nat) (news : List Value) (hx : a.eval x = .slice A m c) (hr : Reads w B size A m c news) (h1 : ∀ u ∈ news, u.oneCell' = true)
    (h63 : n + m ≤ maxLen) (hbytes : (n + m) * bytes ≤ 140737488355328) (hbase : base ≤ w.heap.size)
    (h : ∀ A' c' w', w'.ownsRow base e size (.slice A' (n + m) c') (n + m) (xs ++ news) → w.grownBy w' v.ownBlock → Below base w w' → ((Value.slice A' (n + m) c').ownBlock = v.ownBlock ∨ (Value.slice A' (n + m) c').ownBlock = some w.heap.size) → wpList P ops Q rest (a.put o.dst (.slice A' (n + m) c')) w') : wpList P ops Q (o :: rest) a w :=
  wpList_plain hgd fun _ hK => wp_append_reads w s x t ho base e i z size bytes ht hi hz hsize hby hzs hsz v n xs hs hown B A m c news hx hr h1 h63 hbytes hbase fun A' c' w' h2 h3 h4 h5 => hK _ _ (h A' c' w' h2 h3 h4 h5)

/-- 'append(s, x1, ..)' where s is owned in w0 and the new values have just been laid into a block of their own. -/
theorem wpList_append_new {P : Program} (w0 : World) (cs : Array Value) (e0 : TypeId) {ops : Array Oper} {rest : List Oper} {o : Oper} {a : Act} {Q : Exit → Act → World → Prop} (hgd : o.guard = none) (s x : Operand) (t : TypeId)
    (ho : o.op = .call { callee := .builtin .append, args := #[s, x], argTypes := #[t, t] })
    (base : Nat) (e : TypeId) (i : TypeInfo) (z : Value) (size bytes : Nat) (ht : P.underlying t = some (.slice e)) (hi : P.info? e = some i) (hz : i.zero = some z)
    (hsize : i.size = size) (hby : i.bytes = bytes) (hzs : z.cells.size = size) (hsz : 0 < size)
    (v : Value) (n : Nat) (xs : List Value) (hs : a.eval s = v) (hown : w0.ownsRow base e size v n xs)
    (m : Nat) (hx : a.eval x = .slice (some ⟨w0.heap.size, 0, none⟩) m m) (hcs : cs.size = m * size) (h1 : ∀ u ∈ cs.toList, u.oneCell' = true)
    (h63 : n + m ≤ maxLen) (hbytes : (n + m) * bytes ≤ 140737488355328) (hbase : base ≤ w0.heap.size)
    (h : ∀ A' c' w', w'.ownsRow base e size (.slice A' (n + m) c') (n + m) (xs ++ cs.toList) → w0.grownBy w' v.ownBlock → Below base w0 w' → ((Value.slice A' (n + m) c').ownBlock = v.ownBlock ∨ (Value.slice A' (n + m) c').ownBlock = some (w0.heap.size + 1)) → wpList P ops Q rest (a.put o.dst (.slice A' (n + m) c')) w') : wpList P ops Q (o :: rest) a (w0.alloc (.cells cs e0)) := by
  refine wpList_append_reads (w0.alloc (.cells cs e0)) hgd s x t ho base e i z size bytes ht hi hz hsize hby hzs hsz v n xs hs (hown.alloc _) (w0.heap.size + 1) _ m m cs.toList hx
    (Reads.new w0 cs e0 size m hcs (by simp only [maxLen] at *; omega)) h1 h63 hbytes (by simp; omega) fun A' c' w' h2 h3 h4 h5 => h A' c' w' h2 ?_ ?_ ?_
  · have hg := World.grownBy_alloc w0 (.cells cs e0) v.ownBlock
    exact ⟨h3.os.trans hg.os, h3.tape.trans hg.tape, h3.output.trans hg.output, Nat.le_trans hg.size h3.size, fun k hk hne => (h3.block k (by simp; omega) hne).trans (hg.block k hk hne)⟩
  · exact ((Below.refl base w0).alloc hbase _).trans h4
  · simpa using h5

/-- 'make([]T, n)', T of one cell: n zero elements are owned. -/
theorem wpList_make_one {P : Program} (w : World) {ops : Array Oper} {rest : List Oper} {o : Oper} {a : Act} {Q : Exit → Act → World → Prop}
    (hg : o.guard = none) (l c : Operand) (t : TypeId) (hop : o.op = Op.makeSlice t l c)
    (base : Nat) (e : TypeId) (i : TypeInfo) (z : Value) (bytes : Nat) (h1 : P.underlying t = some (.slice e)) (h2 : P.info? e = some i) (h3 : i.zero = some z) (h4 : i.size = 1) (h5 : i.bytes = bytes) (h6 : z.cells = #[z])
    (kl kc : IntKind) (L C : Int) (n : Nat) (hl : a.eval l = .int kl L) (hc : a.eval c = .int kc C) (hL : L = (n : Int)) (hC : C = (n : Int)) (b2 : bytes * n ≤ 281474976710656) (b3 : n ≤ maxLen) (b4 : base ≤ w.heap.size)
    (hK : ∀ A' c' w', w'.ownsRow base e 1 (.slice A' n c') n (List.replicate n z) → w.grownBy w' none → Below base w w' → (Value.slice A' n c').ownBlock = some w.heap.size → wpList P ops Q rest (a.put o.dst (.slice A' n c')) w') :
    wpList P ops Q (o :: rest) a w := by
  refine wpList_make_full w hg l c t hop base e i z 1 h1 h2 h3 h4 kl kc L C n hl hc hL hC (by rw [h5]; exact b2) b3 b4 fun w' r1 r2 => ?_
  rw [h6, Nat.mul_one, toList_madeCells_one] at r1
  exact hK _ _ w' r1 r2 ((Below.refl base w).grown r2 b4 fun k hk => by cases hk) rfl

/-- A store into what is owned. -/
theorem own_set {w : World} {base g n c size : Nat} {e : TypeId} {xs : List Value} (h : w.ownsRow base e size (.slice (some ⟨g, 0, none⟩) n c) n xs) (j : Nat) (u : Value) :
    (w.setCell ⟨g, j, none⟩ u).ownsRow base e size (.slice (some ⟨g, 0, none⟩) n c) n (xs.set j u) ∧ w.grownBy (w.setCell ⟨g, j, none⟩ u) (some g) := h.stored j u

/-- 'copy(d, s)' of one-cell elements, d owned from its head on, s reads as news. -/
theorem wpList_copy_reads {P : Program} {w : World} {ops : Array Oper} {rest : List Oper} {o : Oper} {a : Act} {Q : Exit → Act → World → Prop} (hgd : o.guard = none) (d s : Operand) (dT sT : TypeId)
    (ho : o.op = .call { callee := .builtin .copy, args := #[d, s], argTypes := #[dT, sT] }) (elem : TypeId) (hu : P.underlying dT = some (.slice elem)) (hsz : (P.info? elem).map (·.size) = some 1)
    (base : Nat) (A : Option Addr) (n c : Nat) (xs : List Value) (hd : a.eval d = .slice A n c) (hown : w.ownsRow base elem 1 (.slice A n c) n xs)
    (B : Nat) (A2 : Option Addr) (m c2 : Nat) (news : List Value) (hs : a.eval s = .slice A2 m c2) (hr : Reads w B 1 A2 m c2 news) (h1 : ∀ u ∈ news, u.oneCell' = true)
    (h : ∀ w', w'.ownsRow base elem 1 (.slice A n c) n (news.take n ++ xs.drop m) → w.grownBy w' (Value.slice A n c).ownBlock → Below base w w' → wpList P ops Q rest (a.put o.dst (goInt (Nat.min m n))) w') :
    wpList P ops Q (o :: rest) a w := by
  have hxl := hown.1
  have hnl := hr.1
  rw [Nat.mul_one] at hxl hnl
  obtain ⟨q, hq, hq1, hq2⟩ : ∃ q, Nat.min m n = q ∧ (m ≤ n → q = m) ∧ (n ≤ m → q = n) := ⟨_, rfl, fun e => Nat.min_eq_left e, fun e => Nat.min_eq_right e⟩
  rw [hq] at h
  by_cases h0 : q = 0
  · refine wpList_copy_nothing hgd d s dT sT ho elem hu hsz A A2 n c m c2 hd hs (by rw [hq, h0]) ?_
    subst h0
    refine h w ?_ (World.grownBy.refl w _) (Below.refl _ _)
    have e : news.take n ++ xs.drop m = xs := by
      rcases (by omega : m = 0 ∨ n = 0) with e | e
      · subst e
        have : news = [] := List.eq_nil_of_length_eq_zero hnl
        simp [this]
      · subst e
        have : xs = [] := List.eq_nil_of_length_eq_zero hxl
        simp [this]
    rw [e]
    exact hown
  · have hm : 0 < m := by omega
    have hn : 0 < n := by omega
    obtain ⟨b, off, rfl, hb, hc⟩ := hr.2.2.2.2 hm
    rcases hown.2 with ⟨hv, hn0⟩ | ⟨g, cap, cur, hv, hbg, hg, hnc, hcm, hcs, ht⟩
    · omega
    · injection hv with ha hb' hc'
      subst ha; subst hc'
      rw [Nat.mul_one] at ht hcs
      have hcl : (news.take n).length = q := by rw [List.length_take, hnl, ← hq]; exact Nat.min_comm n m
      have hqn : q ≤ n := by omega
      refine wpList_copy_own hgd d s dT sT ho elem hu hsz g 0 n c ⟨b, off, none⟩ m c2 hd hs cur elem hg (news.take n) (by rw [hcl, hq]) ?_ (by omega) (fun v hv => h1 v (List.mem_of_mem_take hv)) ?_
      · intro j v hj
        rw [add_lit]
        refine hc j v ?_
        rw [List.getElem?_take] at hj
        split at hj
        · exact hj
        · cases hj
      · rw [hcl, List.take_zero, List.nil_append, Nat.zero_add]
        have hdl : (xs.drop m).length = n - q := by rw [List.length_drop, hxl]; omega
        refine h _ ⟨?_, .inr ⟨g, c, _, rfl, hbg, setRow_heap w g cur _ elem _ hg, hnc, hcm, ?_, ?_⟩⟩ ⟨rfl, rfl, rfl, by simp [World.setRow], fun k _ hk => setRow_other w g k _ (fun e => hk (by simp [Value.ownBlock, e]))⟩ (below_setRow (Below.refl _ _) hbg _)
        · rw [List.length_append, hcl, hdl]; omega
        · rw [List.size_toArray, List.length_append, hcl, List.length_drop, Array.length_toList]; omega
        · rw [Nat.mul_one, List.take_append, hcl, List.take_of_length_le (by rw [hcl]; omega)]
          congr 1
          rw [← ht, List.drop_take]
          rcases Nat.le_total m n with hle | hle
          · rw [hq1 hle]
          · rw [hq2 hle, Nat.sub_self, List.take_zero, Nat.sub_eq_zero_of_le hle, List.take_zero]

/-- 'n & m' on int where m is all ones from the lowest bit on. -/
theorem i64_mask (k : Nat) (hk : k ≤ 62) (n m : Int) (hm : m + 1 = ((2 ^ k : Nat) : Int)) : bits .and .i64 n m = n % (m + 1) := by
  have hp : 2 ^ k ≤ 2 ^ 62 := Nat.pow_le_pow_right (by decide) hk
  have hp1 : 0 < 2 ^ k := Nat.pow_pos (by decide)
  have h1 : (BitVec.ofInt 64 m).toNat = 2 ^ k - 1 := by
    rw [BitVec.toNat_ofInt]
    generalize 2 ^ k = K at *
    omega
  have key : (BitVec.ofInt 64 n &&& BitVec.ofInt 64 m).toNat = (n % ((2 ^ 64 : Nat) : Int)).toNat % 2 ^ k := by
    rw [BitVec.toNat_and, BitVec.toNat_ofInt, h1, Nat.and_two_pow_sub_one_eq_mod]
  show IntKind.i64.wrap ((BitVec.ofInt 64 n &&& BitVec.ofInt 64 m).toNat : Nat) = n % (m + 1)
  have hmod : (n % ((2 ^ 64 : Nat) : Int)).toNat % 2 ^ k = (n % ((2 ^ k : Nat) : Int)).toNat := by
    have hd : ((2 ^ k : Nat) : Int) ∣ ((2 ^ 64 : Nat) : Int) := by
      rw [Int.natCast_dvd_natCast]
      exact Nat.pow_dvd_pow 2 (by omega)
    have e := Int.emod_emod_of_dvd n hd
    have h0 : 0 ≤ n % ((2 ^ 64 : Nat) : Int) := Int.emod_nonneg _ (by decide)
    obtain ⟨q, hq⟩ := Int.eq_ofNat_of_zero_le h0
    rw [hq] at e ⊢
    rw [← e, Int.toNat_natCast, ← Int.natCast_emod, Int.toNat_natCast]
  rw [key, hmod, IntKind.wrap_i64, hm]
  have ha : 0 ≤ n % ((2 ^ k : Nat) : Int) := Int.emod_nonneg _ (by omega)
  have hb : n % ((2 ^ k : Nat) : Int) < ((2 ^ k : Nat) : Int) := Int.emod_lt_of_pos _ (by omega)
  generalize n % ((2 ^ k : Nat) : Int) = r at *
  generalize 2 ^ k = K at *
  omega

/-! ### lists of integers -/
def cells (k : IntKind) (l : List Int) : List Value := l.map (.int k)
theorem cells_nil (k : IntKind) : cells k [] = [] := rfl
theorem cells_append (k : IntKind) (a b : List Int) : cells k (a ++ b) = cells k a ++ cells k b := List.map_append
theorem cells_one (k : IntKind) (x : Int) : cells k [x] = [.int k x] := rfl
theorem cells_length (k : IntKind) (l : List Int) : (cells k l).length = l.length := List.length_map ..
theorem cells_get {k : IntKind} {l : List Int} {j : Nat} {x : Int} (h : l[j]? = some x) : (cells k l)[j]? = some (.int k x) := by simp [cells, h]
theorem cells_set (k : IntKind) (l : List Int) (j : Nat) (x : Int) : (cells k l).set j (.int k x) = cells k (l.set j x) := by simp [cells, List.map_set]
theorem cells_take (k : IntKind) (l : List Int) (j : Nat) : (cells k l).take j = cells k (l.take j) := by simp [cells, List.map_take]
theorem cells_drop (k : IntKind) (l : List Int) (j : Nat) : (cells k l).drop j = cells k (l.drop j) := by simp [cells, List.map_drop]
theorem cells_replicate (k : IntKind) (n : Nat) (x : Int) : List.replicate n (Value.int k x) = cells k (List.replicate n x) := by simp [cells]
theorem cells_oneCell (k : IntKind) (l : List Int) : ∀ u ∈ cells k l, u.oneCell' = true := by
  intro u hu
  simp only [cells, List.mem_map] at hu
  obtain ⟨x, _, rfl⟩ := hu
  rfl
theorem cells_inj {k : IntKind} {a b : List Int} (h : cells k a = cells k b) : a = b := by
  unfold cells at h
  exact List.map_inj_right (fun x y e => by injection e) |>.1 h

theorem Reads.at_ {k : IntKind} {w : World} {B n c j : Nat} {A : Option Addr} {l : List Int} (h : Reads w B 1 A n c (cells k l)) (hj : j < n) :
    ∃ b o x, A = some ⟨b, o, none⟩ ∧ b < B ∧ l[j]? = some x ∧ w.cell? ⟨b, o + j, none⟩ = some (.int k x) := by
  obtain ⟨b, o, e, hb, hc⟩ := h.2.2.2.2 (by omega)
  have hl : j < l.length := by have := h.1; rw [cells_length] at this; omega
  exact ⟨b, o, l[j], e, hb, List.getElem?_eq_getElem hl, hc j _ (cells_get (List.getElem?_eq_getElem hl))⟩
theorem Reads.length {k : IntKind} {w : World} {B n c : Nat} {A : Option Addr} {l : List Int} (h : Reads w B 1 A n c (cells k l)) : l.length = n := by
  have := h.1; rw [cells_length] at this; omega
theorem own_length {k : IntKind} {w : World} {base n : Nat} {e : TypeId} {v : Value} {l : List Int} (h : w.ownsRow base e 1 v n (cells k l)) : l.length = n := by
  have := h.1; rw [cells_length] at this; omega

/-- A slice of integers that came in, as the row's frame hands it over. -/
theorem reads_of_row {k : IntKind} {w : World} {a : Option Addr} {len cap : Nat} {zs : List Int}
    (h : (a = none ∧ len = 0 ∧ cap = 0 ∧ zs = []) ∨ ∃ x, a = some x ∧ len ≤ cap ∧ cap ≤ maxLen ∧ zs.length = cap ∧ (∀ i, i < zs.length → w.cell? (x.add i) = some (.int k (zs.getD i 0))) ∧ ∀ n ∈ zs, (Lit.int k n).wf = true) :
    Reads w w.heap.size 1 a len cap (cells k (zs.take len)) := by
  rcases h with ⟨rfl, rfl, rfl, rfl⟩ | ⟨x, rfl, hl, hm, hz, hc, _⟩
  · exact Reads.nil_ _ _ _
  · refine ⟨by rw [cells_length, List.length_take]; omega, hl, hm, fun h => (by cases h), fun hn => ?_⟩
    obtain ⟨b, o, sp⟩ := x
    have h0 := hc 0 (by omega)
    have hs : sp = none := by simpa [Addr.add] using World.cell?_spot h0
    subst hs
    refine ⟨b, o, rfl, ?_, fun j u hu => ?_⟩
    · rw [add_lit] at h0; exact cell_block h0
    · have hj : j < zs.length := by
        have := (List.getElem?_eq_some_iff.1 hu).1
        rw [cells_length, List.length_take] at this
        omega
      have := hc j hj
      rw [add_lit] at this
      rw [this, ← hu, cells, List.getElem?_map, List.getElem?_take]
      have hjl : j < len := by
        have := (List.getElem?_eq_some_iff.1 hu).1
        rw [cells_length, List.length_take] at this
        omega
      simp [hjl, List.getElem?_eq_getElem hj]
end Go.Proofs.Ytongakhcmdkeiaa
