/- Bytes over objects: pieces, objects, bytes of an object: plain laws on numbers, no program. Conditions: those that each theorem states. -/
import Derived.Test.YtjbfkpajplmmgaaStrP
namespace Go.Proofs.Ytjbfkpajplmmgaa
open Go.RowKit

/-- A piece: object, place in it, length, place in the run. -/
abbrev Pc : Type := Nat × Nat × Nat × Nat

/-- Lays a run of k bytes behind the pieces; the last piece stands first. -/
def pushE : List Pc → Nat → Nat → Nat → Nat → List Pc
  | [], o, a, k, i => [(o, a, k, i)]
  | (o', a', k', i') :: r, o, a, k, i => if o' = o ∧ a' + k' = a then (o', a', k' + k, i') :: r else (o, a, k, i) :: (o', a', k', i') :: r

theorem pushE_yes {r : List Pc} {o a k i o' a' k' i' : Nat} (h : o' = o ∧ a' + k' = a) : pushE ((o', a', k', i') :: r) o a k i = (o', a', k' + k, i') :: r := if_pos h
theorem pushE_no {r : List Pc} {o a k i o' a' k' i' : Nat} (h : ¬ (o' = o ∧ a' + k' = a)) : pushE ((o', a', k', i') :: r) o a k i = (o, a, k, i) :: (o', a', k', i') :: r := if_neg h

theorem push_push (L : List Pc) (o a k i j : Nat) : pushE (pushE L o a k i) o (a + k) j (i + k) = pushE L o a (k + j) i := by
  rcases L with _ | ⟨⟨o', a', k', i'⟩, r⟩
  · exact pushE_yes ⟨rfl, rfl⟩
  · by_cases h : o' = o ∧ a' + k' = a
    · rw [pushE_yes h, pushE_yes h, pushE_yes ⟨h.1, by have := h.2; omega⟩, Nat.add_assoc]
    · rw [pushE_no h, pushE_no h]; exact pushE_yes ⟨rfl, rfl⟩

/-- The pieces of a run, byte by byte. -/
def mapR (P Q C off : Nat) : Nat → List Pc
  | 0 => []
  | n + 1 => pushE (mapR P Q C off n) (oX P Q C (off + n)) (oA P Q C (off + n)) 1 n

theorem unit_same {P Q C x j : Nat} (h : x % P + j < P) : oX P Q C (x + j) = oX P Q C x ∧ oA P Q C (x + j) = oA P Q C x + j := by
  have e : x + j = x / P * P + (x % P + j) := by have := dm_back x P; omega
  have e1 : (x + j) / P = x / P := by rw [e, dm_div h]
  have e2 : (x + j) % P = x % P + j := by
    have : (x / P * P + (x % P + j)) % P = x % P + j := dm_mod h
    rw [← e] at this; exact this
  unfold oX oA
  rw [e1, e2]
  exact ⟨rfl, by omega⟩

theorem mapR_unit {P Q C off at_ : Nat} : ∀ {k : Nat}, 1 ≤ k → (off + at_) % P + k ≤ P →
    mapR P Q C off (at_ + k) = pushE (mapR P Q C off at_) (oX P Q C (off + at_)) (oA P Q C (off + at_)) k at_
  | 0, h, _ => absurd h (by omega)
  | 1, _, _ => rfl
  | k + 2, _, h2 => by
    have ih := mapR_unit (P := P) (Q := Q) (C := C) (off := off) (at_ := at_) (k := k + 1) (by omega) (by omega)
    have hs := unit_same (P := P) (Q := Q) (C := C) (x := off + at_) (j := k + 1) (by omega)
    have e : mapR P Q C off (at_ + (k + 2)) = pushE (mapR P Q C off (at_ + (k + 1))) (oX P Q C (off + at_ + (k + 1))) (oA P Q C (off + at_ + (k + 1))) 1 (at_ + (k + 1)) := by rw [Nat.add_assoc off at_ (k + 1)]; rfl
    rw [e, hs.1, hs.2, ih, push_push]

/-- The cells of the pieces. -/
def pcs : List Pc → List Value
  | [] => []
  | (o, a, k, i) :: r => pcs r ++ [.int .i64 (o : Int), .int .i64 (a : Int), .int .i64 (k : Int), .int .i64 (i : Int)]
theorem pcs_length : ∀ L : List Pc, (pcs L).length = L.length * 4
  | [] => rfl
  | (_, _, _, _) :: r => by simp only [pcs, List.length_append, pcs_length r, List.length_cons, List.length_nil]; omega
theorem pcs_last (o a k i : Nat) (r : List Pc) : (pcs ((o, a, k, i) :: r))[r.length * 4]? = some (.int .i64 (o : Int)) ∧ (pcs ((o, a, k, i) :: r))[r.length * 4 + 1]? = some (.int .i64 (a : Int)) ∧
    (pcs ((o, a, k, i) :: r))[r.length * 4 + 2]? = some (.int .i64 (k : Int)) ∧ (pcs ((o, a, k, i) :: r))[r.length * 4 + 3]? = some (.int .i64 (i : Int)) := by
  have hl := pcs_length r
  unfold pcs
  refine ⟨?_, ?_, ?_, ?_⟩
  · rw [List.getElem?_append_right (by omega), hl, Nat.sub_self]; rfl
  · rw [List.getElem?_append_right (by omega), hl, Nat.add_sub_cancel_left]; rfl
  · rw [List.getElem?_append_right (by omega), hl, Nat.add_sub_cancel_left]; rfl
  · rw [List.getElem?_append_right (by omega), hl, Nat.add_sub_cancel_left]; rfl
theorem pcs_set (o a k i k' : Nat) (r : List Pc) : (pcs ((o, a, k, i) :: r)).set (r.length * 4 + 2) (.int .i64 (k' : Int)) = pcs ((o, a, k', i) :: r) := by
  have hl := pcs_length r
  unfold pcs
  rw [List.set_append_right _ _ (by omega), hl, Nat.add_sub_cancel_left]; rfl
theorem pcs_oneCell : ∀ (L : List Pc), ∀ u ∈ pcs L, u.oneCell' = true
  | [], u, h => by simp [pcs] at h
  | (o, a, k, i) :: r, u, h => by
    simp only [pcs, List.mem_append] at h
    rcases h with h | h
    · exact pcs_oneCell r u h
    · simp at h; rcases h with rfl | rfl | rfl | rfl <;> rfl
theorem pcs_mid (L1 : List Pc) (x : Pc) (L2 : List Pc) (j : Nat) (hj : j < L2.length * 4 + 4) : (pcs (L1 ++ x :: L2))[j]? = (pcs (x :: L2))[j]? := by
  induction L1 with
  | nil => rfl
  | cons y r ih =>
    obtain ⟨o, a, k, i⟩ := y
    have e : pcs ((o, a, k, i) :: r ++ x :: L2) = pcs (r ++ x :: L2) ++ [.int .i64 (o : Int), .int .i64 (a : Int), .int .i64 (k : Int), .int .i64 (i : Int)] := rfl
    rw [e, List.getElem?_append_left, ih]
    rw [pcs_length, List.length_append, List.length_cons]
    omega

/-! ### objects -/
theorem oX_le (P Q C x : Nat) : oX P Q C x ≤ x := by
  unfold oX
  have h1 : x / P / C / Q * C ≤ x / P / C * C := Nat.mul_le_mul_right _ (Nat.div_le_self _ _)
  have h2 := dm_back (x / P) C
  have h3 : x / P ≤ x := Nat.div_le_self _ _
  omega
def topX (P Q C : Nat) : Nat → Nat
  | 0 => 0
  | n + 1 => max (topX P Q C n) (oX P Q C n + 1)
theorem topX_unit {P Q C x : Nat} (hx : x % P = 0) : ∀ {k : Nat}, 1 ≤ k → k ≤ P → topX P Q C (x + k) = max (topX P Q C x) (oX P Q C x + 1)
  | 0, h, _ => absurd h (by omega)
  | 1, _, _ => rfl
  | k + 2, _, h2 => by
    have ih := topX_unit (Q := Q) (C := C) hx (k := k + 1) (by omega) (by omega)
    have hs := unit_same (P := P) (Q := Q) (C := C) (x := x) (j := k + 1) (by omega)
    have e : topX P Q C (x + (k + 2)) = max (topX P Q C (x + (k + 1))) (oX P Q C (x + (k + 1)) + 1) := rfl
    rw [e, hs.1, ih]
    omega
theorem topX_ge {P Q C : Nat} : ∀ {n i : Nat}, i < n → oX P Q C i + 1 ≤ topX P Q C n
  | 0, _, h => absurd h (by omega)
  | n + 1, i, h => by
    simp only [topX]
    by_cases e : i = n
    · subst e; omega
    · have := topX_ge (P := P) (Q := Q) (C := C) (n := n) (i := i) (by omega); omega
theorem topX_le {P Q C : Nat} : ∀ n, topX P Q C n ≤ n
  | 0 => Nat.le_refl _
  | n + 1 => by
    have ih := topX_le (P := P) (Q := Q) (C := C) n
    have := oX_le P Q C n
    simp only [topX]
    omega
theorem topX_is {P Q C : Nat} : ∀ {n : Nat}, 0 < topX P Q C n → ∃ i, i < n ∧ oX P Q C i + 1 = topX P Q C n
  | 0, h => absurd h (by simp [topX])
  | n + 1, _ => by
    simp only [topX]
    by_cases e : topX P Q C n ≤ oX P Q C n + 1
    · exact ⟨n, by omega, by omega⟩
    · obtain ⟨i, h1, h2⟩ := topX_is (P := P) (Q := Q) (C := C) (n := n) (by omega)
      exact ⟨i, by omega, by omega⟩

/-! ### bytes of an object -/
def topA (P Q C b : Nat) : Nat → Nat
  | 0 => 0
  | n + 1 => if oX P Q C n = b then max (topA P Q C b n) (oA P Q C n + 1) else topA P Q C b n
theorem topA_le {P Q C b m : Nat} : ∀ {n : Nat}, (∀ i, i < n → oX P Q C i = b → oA P Q C i + 1 ≤ m) → topA P Q C b n ≤ m
  | 0, _ => Nat.zero_le _
  | n + 1, h => by
    have ih := topA_le (P := P) (Q := Q) (C := C) (b := b) (m := m) (n := n) (fun i hi => h i (by omega))
    simp only [topA]
    split
    · rename_i e; have := h n (by omega) e; omega
    · exact ih
theorem topA_ge {P Q C b : Nat} : ∀ {n i : Nat}, i < n → oX P Q C i = b → oA P Q C i + 1 ≤ topA P Q C b n
  | 0, _, h, _ => absurd h (by omega)
  | n + 1, i, h, hb => by
    simp only [topA]
    by_cases e : i = n
    · subst e; rw [if_pos hb]; omega
    · have := topA_ge (P := P) (Q := Q) (C := C) (n := n) (i := i) (by omega) hb
      split <;> omega
theorem topA_bk {P Q C b size n : Nat} (hP : 0 < P) (hQ : 0 < Q) (hC : 0 < C) (hn : n ≤ P * Q) (h1 : ∀ m, n ≤ m → m < P * Q → size ≤ bk P Q C b m) (h2 : n = 0 ∨ bk P Q C b (n - 1) < size) : topA P Q C b size = n := by
  refine Nat.le_antisymm (topA_le fun i hi hb => ?_) ?_
  · have ha := oA_lt (P := P) (Q := Q) (c := C) hP hQ i
    have hbk := bk_place (P := P) (Q := Q) hP hC i
    rw [hb] at hbk
    by_cases hc : n ≤ oA P Q C i
    · have := h1 _ hc ha; omega
    · omega
  · rcases h2 with h2 | h2
    · omega
    · by_cases h0 : n = 0
      · omega
      · obtain ⟨e1, e2⟩ := place_bk (P := P) (Q := Q) (c := C) hP hC b (n - 1) (by omega)
        have := topA_ge (P := P) (Q := Q) (C := C) h2 e1
        rw [e2] at this
        omega
theorem topA_none {P Q C b size : Nat} (h : topX P Q C size ≤ b) : topA P Q C b size = 0 :=
  Nat.le_zero.1 (topA_le fun i hi e => by have := topX_ge (P := P) (Q := Q) (C := C) hi; omega)

/-! ### the pieces of a run are its bytes -/
def goodP (P Q C off : Nat) : List Pc → Nat → Prop
  | [], e => e = 0
  | (o, a, k, i) :: r, e => i + k = e ∧ 1 ≤ k ∧ a + k ≤ P * Q ∧ (∀ j, j < k → oX P Q C (off + i + j) = o ∧ oA P Q C (off + i + j) = a + j) ∧
      (∀ o' a' k' i' r', r = (o', a', k', i') :: r' → ¬ (o' = o ∧ a' + k' = a)) ∧ goodP P Q C off r i
theorem good_push {P Q C off : Nat} {L : List Pc} {e : Nat} (h : goodP P Q C off L e) (hA : oA P Q C (off + e) < P * Q) : goodP P Q C off (pushE L (oX P Q C (off + e)) (oA P Q C (off + e)) 1 e) (e + 1) := by
  rcases L with _ | ⟨⟨o', a', k', i'⟩, r⟩
  · have h0 : e = 0 := h
    subst h0
    refine ⟨rfl, by omega, by omega, fun j hj => ?_, fun _ _ _ _ _ h => by simp at h, rfl⟩
    obtain rfl : j = 0 := by omega
    exact ⟨rfl, rfl⟩
  · by_cases hm : o' = oX P Q C (off + e) ∧ a' + k' = oA P Q C (off + e)
    · rw [pushE_yes hm]
      obtain ⟨h1, h2, h3, h4, h5, h6⟩ := h
      refine ⟨by omega, by omega, by omega, fun j hj => ?_, h5, h6⟩
      by_cases hk : j < k'
      · exact h4 j hk
      · obtain rfl : j = k' := by omega
        have e1 : off + i' + j = off + e := by omega
        rw [e1]
        exact ⟨hm.1.symm, hm.2.symm⟩
    · rw [pushE_no hm]
      refine ⟨rfl, by omega, by omega, fun j hj => ?_, fun o2 a2 k2 i2 r2 he => ?_, h⟩
      · obtain rfl : j = 0 := by omega
        exact ⟨rfl, rfl⟩
      · simp only [List.cons.injEq, Prod.mk.injEq] at he
        obtain ⟨⟨rfl, rfl, rfl, rfl⟩, _⟩ := he
        exact hm
theorem good_map {P Q C off : Nat} (hP : 0 < P) (hQ : 0 < Q) : ∀ n, goodP P Q C off (mapR P Q C off n) n
  | 0 => rfl
  | n + 1 => good_push (good_map hP hQ n) (oA_lt hP hQ _)
theorem good_tail {P Q C off : Nat} : ∀ {L1 L2 : List Pc} {e : Nat}, goodP P Q C off (L1 ++ L2) e → ∃ e', goodP P Q C off L2 e'
  | [], _, e, h => ⟨e, h⟩
  | (_, _, _, i) :: r, _, _, h => good_tail (L1 := r) (e := i) h.2.2.2.2.2
theorem good_end {P Q C off : Nat} {L : List Pc} {e e' : Nat} (h : goodP P Q C off L e) (h' : goodP P Q C off L e') : e = e' := by
  rcases L with _ | ⟨⟨o, a, k, i⟩, r⟩
  · have h1 : e = 0 := h; have h2 : e' = 0 := h'; omega
  · have h1 := h.1; have h2 := h'.1; omega
theorem mapR_length {P Q C off : Nat} : ∀ n, (mapR P Q C off n).length ≤ n
  | 0 => Nat.le_refl _
  | n + 1 => by
    have ih := mapR_length (P := P) (Q := Q) (C := C) (off := off) n
    simp only [mapR]
    generalize mapR P Q C off n = L at *
    rcases L with _ | ⟨⟨o', a', k', i'⟩, r⟩
    · simp [pushE]
    · simp only [pushE]; split <;> simp at ih ⊢ <;> omega

/-! ### counted one by one -/
def cnt (P Q C b : Nat) : Nat → Nat
  | 0 => 0
  | n + 1 => if oX P Q C n = b then cnt P Q C b n + 1 else cnt P Q C b n
theorem bk_mono {P Q C b a a' : Nat} (hC : 0 < C) (hP : 0 < P) (h : a ≤ a') : bk P Q C b a ≤ bk P Q C b a' := by
  unfold bk
  have h1 : a / P ≤ a' / P := Nat.div_le_div_right h
  by_cases e : a / P = a' / P
  · have h2 := dm_back a P
    have h3 := dm_back a' P
    rw [e] at h2 ⊢
    omega
  · have hm := Nat.mod_lt a hP
    have k1 : (b / C * Q + a / P) * C + C ≤ (b / C * Q + a' / P) * C := by
      have : (b / C * Q + a / P + 1) * C ≤ (b / C * Q + a' / P) * C := Nat.mul_le_mul_right _ (by omega)
      rw [Nat.add_mul, Nat.one_mul] at this
      exact this
    have k2 : ((b / C * Q + a / P) * C + b % C) * P + P ≤ ((b / C * Q + a' / P) * C + b % C) * P := by
      have : ((b / C * Q + a / P) * C + b % C + 1) * P ≤ ((b / C * Q + a' / P) * C + b % C) * P := Nat.mul_le_mul_right _ (by omega)
      rw [Nat.add_mul, Nat.one_mul] at this
      exact this
    omega
theorem oA_mono {P Q C i j : Nat} (hP : 0 < P) (hC : 0 < C) (h : i < j) (e : oX P Q C i = oX P Q C j) : oA P Q C i < oA P Q C j := by
  by_cases hc : oA P Q C j ≤ oA P Q C i
  · have := bk_mono (P := P) (Q := Q) (C := C) (b := oX P Q C i) hC hP hc
    rw [bk_place hP hC i] at this
    rw [e, bk_place hP hC j] at this
    omega
  · omega
theorem cnt_top {P Q C b : Nat} (hP : 0 < P) (hC : 0 < C) : ∀ n, cnt P Q C b n ≤ topA P Q C b n
  | 0 => Nat.le_refl _
  | n + 1 => by
    have ih := cnt_top (Q := Q) (b := b) hP hC n
    simp only [cnt, topA]
    split
    · rename_i e
      have : topA P Q C b n ≤ oA P Q C n := topA_le fun i hi hb => oA_mono hP hC hi (hb.trans e.symm)
      omega
    · exact ih
/-- The sum of the first m counts. -/
def sumC (f : Nat → Nat) : Nat → Nat
  | 0 => 0
  | m + 1 => sumC f m + f m
theorem sumC_one {f g : Nat → Nat} {b : Nat} (h1 : g b = f b + 1) (h2 : ∀ k, k ≠ b → g k = f k) : ∀ m, sumC g m = sumC f m + if b < m then 1 else 0
  | 0 => rfl
  | m + 1 => by
    simp only [sumC, sumC_one h1 h2 m]
    by_cases e : m = b
    · subst e; rw [h1, if_neg (by omega), if_pos (by omega)]; omega
    · rw [h2 m e]; split <;> split <;> omega
theorem sumC_cnt {P Q C m : Nat} : ∀ n, (∀ i, i < n → oX P Q C i < m) → sumC (fun b => cnt P Q C b n) m = n
  | 0, _ => by
    have : ∀ m, sumC (fun _ => 0) m = 0 := fun m => by induction m with
      | zero => rfl
      | succ m ih => simp only [sumC, ih]
    exact this m
  | n + 1, h => by
    have ih := sumC_cnt (P := P) (Q := Q) (C := C) (m := m) n (fun i hi => h i (by omega))
    have := sumC_one (f := fun b => cnt P Q C b n) (g := fun b => cnt P Q C b (n + 1)) (b := oX P Q C n) (by simp [cnt]) (by intro k hk; simp [cnt, Ne.symm hk]) m
    rw [this, ih, if_pos (h n (by omega))]
end Go.Proofs.Ytjbfkpajplmmgaa
