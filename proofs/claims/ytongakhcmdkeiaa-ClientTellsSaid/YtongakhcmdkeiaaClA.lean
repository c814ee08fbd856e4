/- Rows of clients: what they are in memory, and which may be. Conditions: those that each theorem states. -/
import Derived.Test.YtongakhcmdkeiaaProg
import Derived.Test.YtongakhcmdkeiaaDel
import Derived.Deep.LoopGhost
import Derived.Deep.DeepCutAuto
import Derived.BigQuiet
namespace Go.Proofs.Ytongakhcmdkeiaa
open Go.RowKit

theorem bool_of {p q : Bool} (h : p = true ↔ q = true) : p = q := by rw [Bool.eq_iff_iff]; exact h
theorem dec_yes {p : Prop} [Decidable p] (h : p) : decide p = true := decide_eq_true h
theorem dec_no {p : Prop} [Decidable p] (h : ¬ p) : decide p = false := decide_eq_false h

/-- A client: its number, where it stands, is it off. -/
abbrev Cl := Int × Int × Bool
def clc : List Cl → List Value
  | [] => []
  | (i, p, o) :: r => .int .i64 i :: .int .i64 p :: .bool o :: clc r
theorem clc_length : ∀ L, (clc L).length = L.length * 3
  | [] => rfl
  | (_, _, _) :: r => by simp only [clc, List.length_cons, clc_length r]; omega
theorem clc_append : ∀ L M, clc (L ++ M) = clc L ++ clc M
  | [], _ => rfl
  | (_, _, _) :: r, M => by simp only [clc, List.cons_append, clc_append r M]
theorem clc_take : ∀ (L : List Cl) (i : Nat), clc (L.take i) = (clc L).take (i * 3)
  | [], i => by simp [clc]
  | _ :: _, 0 => by simp [clc]
  | (_, _, _) :: r, i + 1 => by
    rw [show (i + 1) * 3 = i * 3 + 1 + 1 + 1 by omega]
    simp only [clc, List.take_succ_cons, clc_take r i]
theorem clc_drop : ∀ (L : List Cl) (i : Nat), clc (L.drop i) = (clc L).drop (i * 3)
  | [], i => by simp [clc]
  | _ :: _, 0 => by simp
  | (_, _, _) :: r, i + 1 => by
    rw [show (i + 1) * 3 = i * 3 + 1 + 1 + 1 by omega]
    simp only [clc, List.drop_succ_cons, clc_drop r i]
theorem clc_get : ∀ {L : List Cl} {k : Nat} {i p : Int} {o : Bool}, L[k]? = some (i, p, o) → (clc L)[k * 3]? = some (.int .i64 i) ∧ (clc L)[k * 3 + 1]? = some (.int .i64 p) ∧ (clc L)[k * 3 + 2]? = some (.bool o)
  | [], k, _, _, _, h => by simp at h
  | (_, _, _) :: r, 0, _, _, _, h => by
    simp at h
    obtain ⟨rfl, rfl, rfl⟩ := h
    exact ⟨rfl, rfl, rfl⟩
  | (_, _, _) :: r, k + 1, i, p, o, h => by
    rw [show (k + 1) * 3 = k * 3 + 1 + 1 + 1 by omega]
    simp only [clc, List.getElem?_cons_succ] at h ⊢
    exact clc_get h
theorem clc_oneCell : ∀ L, ∀ u ∈ clc L, u.oneCell' = true
  | [], u, h => by simp [clc] at h
  | (_, _, _) :: r, u, h => by
    simp only [clc, List.mem_cons] at h
    rcases h with rfl | rfl | rfl | h
    · rfl
    · rfl
    · rfl
    · exact clc_oneCell r u h

/-- A row of clients, wherever it lies. -/
abbrev ClAt (w : World) (A : Option Addr) (n c : Nat) (L : List Cl) : Prop := Reads w w.heap.size 3 A n c (clc L)
theorem cl_length {w : World} {B n c : Nat} {A : Option Addr} {L : List Cl} (h : Reads w B 3 A n c (clc L)) : L.length = n := by have := h.len; rw [clc_length] at this; omega
theorem cl_at {w : World} {B n c k : Nat} {A : Option Addr} {L : List Cl} (h : Reads w B 3 A n c (clc L)) (hk : k < n) :
    ∃ b o i p f, A = some ⟨b, o, none⟩ ∧ b < B ∧ L[k]? = some (i, p, f) ∧ w.cell? ⟨b, o + k * 3, none⟩ = some (.int .i64 i) ∧ w.cell? ⟨b, o + k * 3 + 1, none⟩ = some (.int .i64 p) ∧ w.cell? ⟨b, o + k * 3 + 2, none⟩ = some (.bool f) := by
  obtain ⟨b, o, rfl, hb, hc⟩ := h.2.2.2.2 (by omega)
  obtain ⟨⟨i, p, f⟩, hx⟩ : ∃ x, L[k]? = some x := ⟨_, List.getElem?_eq_getElem (by rw [cl_length h]; exact hk)⟩
  obtain ⟨p0, p1, p2⟩ := clc_get hx
  exact ⟨b, o, i, p, f, rfl, hb, hx, hc _ _ p0, by rw [Nat.add_assoc]; exact hc _ _ p1, by rw [Nat.add_assoc]; exact hc _ _ p2⟩

def mayB (i p : Int) : Bool := decide (1 ≤ i) && decide (i ≤ 1073741824) && decide (0 ≤ p) && decide (p ≤ 1099511627776)
theorem mayB_is {i p : Int} (h : mayB i p = true) : 1 ≤ i ∧ i ≤ 1073741824 ∧ 0 ≤ p ∧ p ≤ 1099511627776 := by
  simp [mayB] at h; omega
theorem mayB_mk {i p : Int} (h : 1 ≤ i ∧ i ≤ 1073741824 ∧ 0 ≤ p ∧ p ≤ 1099511627776) : mayB i p = true := by simp [mayB]; omega
theorem mayB_no {i p : Int} (h : ¬ (1 ≤ i ∧ i ≤ 1073741824 ∧ 0 ≤ p ∧ p ≤ 1099511627776)) : mayB i p = false := by
  cases e : mayB i p
  · rfl
  · exact absurd (mayB_is e) h

def rightFrom : Int → List Cl → Bool
  | _, [] => true
  | last, (i, p, _) :: r => mayB i p && decide (last < i) && rightFrom i r
def rightB (L : List Cl) : Bool := rightFrom 0 L && decide (L.length ≤ 4)
theorem rightFrom_at {last : Int} {L : List Cl} {k : Nat} {i p : Int} {f : Bool} (h : L[k]? = some (i, p, f)) : rightFrom last (L.drop k) = (mayB i p && decide (last < i) && rightFrom i (L.drop (k + 1))) := by
  obtain ⟨hk, e⟩ := List.getElem?_eq_some_iff.1 h
  rw [List.drop_eq_getElem_cons hk, e]
  rfl

theorem may_any (i p : Int) (w : World) : Calls Try.prog 30 #[.int .i64 i, .int .i64 p] w fun e w' => e = .returned (.bool (mayB i p)) ∧ w = w' := by
  go_enter Try.func30, Try.ntmps30
  go_wp2_with fail
  all_goals
    go_ret
    exact ⟨ret_bool (bool_of (by simp [mayB]; omega)), rfl⟩

set_option maxHeartbeats 1000000 in
theorem right_any (A : Option Addr) (n c : Nat) (L : List Cl) (w : World) (h : ClAt w A n c L) :
    Calls Try.prog 13 #[.slice A n c] w fun e w' => e = .returned (.bool (rightB L)) ∧ Below w.heap.size w w' := by
  have hbig := h.big
  have hlen := cl_length h
  have HL := Lib.hid hlen
  clear hlen
  go_enter Try.func13, Try.ntmps13
  go_wp2_with fail
  go_loopg [3, 5, 8] n (fun gk la _ i wr => ∃ (k : Nat) (last : Int), k + gk = n ∧ i = .int .i64 (k : Nat) ∧ la = .int .i64 last ∧ Below w.heap.size w wr ∧ Hid (rightFrom 0 L = rightFrom last (L.drop k)))
  case atStart => exact ⟨0, 0, by omega, rfl, rfl, Below.refl _ _, Lib.hid rfl⟩
  case round =>
    obtain ⟨k, last, hk, rfl, rfl, hb, HR⟩ := hrel
    have HK := Lib.hid hk
    have hkn : k ≤ n := by omega
    clear hk
    by_cases hlt : k < n
    · obtain ⟨b, o, ci, cp, cf, rfl, hbb, hx, x0, x1, x2⟩ := cl_at (h.below hb) hlt
      have HX := Lib.hid (rightFrom_at (last := last) hx)
      have b0 : (0 : Int) ≤ (k : Int) := by omega
      have bk : (k : Int) < (n : Int) := by omega
      have hs := hb.size
      clear hx
      go_wp2_with fail
      refine (may_any _ _ _).mono ?_
      rintro e w1 ⟨rfl, rfl⟩
      cases hm : mayB ci cp
      · go_wp2_with fail
        go_ret
        refine ⟨ret_bool ?_, hb.alloc hs _⟩
        unfold rightB
        rw [HR.out, HX.out, hm]
        rfl
      · by_cases hl : last < ci
        · have hl2 : ¬ ci ≤ last := by omega
          go_wp2_with fail
          go_roundg (n - (k + 1))
          case measure => have := HK.out; omega
          case rel => exact ⟨k + 1, ci, by omega, by go_num, rfl, hb.alloc hs _, Lib.hid (by rw [HR.out, HX.out, hm, dec_yes hl]; rfl)⟩
        · have hl2 : ci ≤ last := by omega
          go_wp2_with fail
          go_ret
          refine ⟨ret_bool ?_, hb.alloc hs _⟩
          unfold rightB
          rw [HR.out, HX.out, hm, dec_no (show ¬ last < ci by omega)]
          rfl
    · obtain rfl : k = n := by omega
      go_wp2_with fail
      all_goals
        go_ret
        refine ⟨ret_bool (bool_of ?_), hb⟩
        have e := HR.out
        rw [List.drop_of_length_le (by rw [HL.out]; exact Nat.le_refl _)] at e
        unfold rightB
        rw [e, HL.out]
        simp [rightFrom]
        try omega
end Go.Proofs.Ytongakhcmdkeiaa
