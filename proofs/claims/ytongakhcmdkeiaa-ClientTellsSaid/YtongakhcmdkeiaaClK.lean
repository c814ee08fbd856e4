/- Rows of calls; what the document answers: RightClients, Find, Slowest. The walks. Conditions: those that each theorem states. -/
import Derived.Test.YtongakhcmdkeiaaClI
import Derived.Test.YtongakhcmdkeiaaClP
import Derived.Deep.RegionHeld3
namespace Go.Proofs.Ytongakhcmdkeiaa
open Go.RowKit

/-- A call: what, whom, where, off. -/
abbrev Actc : Type := Int × Int × Int × Bool
def acs : List Actc → List Value
  | [] => []
  | (a, i, p, f) :: r => .int .i64 a :: .int .i64 i :: .int .i64 p :: .bool f :: acs r
theorem acs_length : ∀ L, (acs L).length = L.length * 4
  | [] => rfl
  | (_, _, _, _) :: r => by simp only [acs, List.length_cons, acs_length r]; omega
theorem acs_get : ∀ {L : List Actc} {k : Nat} {a i p : Int} {f : Bool}, L[k]? = some (a, i, p, f) → (acs L)[k * 4]? = some (.int .i64 a) ∧ (acs L)[k * 4 + 1]? = some (.int .i64 i) ∧ (acs L)[k * 4 + 2]? = some (.int .i64 p) ∧ (acs L)[k * 4 + 3]? = some (.bool f)
  | [], k, _, _, _, _, h => by simp at h
  | (_, _, _, _) :: r, 0, _, _, _, _, h => by
    simp at h
    obtain ⟨rfl, rfl, rfl, rfl⟩ := h
    exact ⟨rfl, rfl, rfl, rfl⟩
  | (_, _, _, _) :: r, k + 1, _, _, _, _, h => by
    rw [show (k + 1) * 4 = k * 4 + 1 + 1 + 1 + 1 by omega]
    simp only [acs, List.getElem?_cons_succ] at h ⊢
    exact acs_get h
abbrev ActsAt (w : World) (A : Option Addr) (n c : Nat) (L : List Actc) : Prop := Reads w w.heap.size 4 A n c (acs L)
theorem acs_len {w : World} {B n c : Nat} {A : Option Addr} {L : List Actc} (h : Reads w B 4 A n c (acs L)) : L.length = n := by have := h.len; rw [acs_length] at this; omega
theorem acs_at {w : World} {B n c k : Nat} {A : Option Addr} {L : List Actc} (h : Reads w B 4 A n c (acs L)) (hk : k < n) :
    ∃ b o a i p f, A = some ⟨b, o, none⟩ ∧ b < B ∧ L[k]? = some (a, i, p, f) ∧ w.cell? ⟨b, o + k * 4, none⟩ = some (.int .i64 a) ∧ w.cell? ⟨b, o + k * 4 + 1, none⟩ = some (.int .i64 i) ∧ w.cell? ⟨b, o + k * 4 + 2, none⟩ = some (.int .i64 p) ∧ w.cell? ⟨b, o + k * 4 + 3, none⟩ = some (.bool f) := by
  obtain ⟨b, o, rfl, hb, hc⟩ := h.2.2.2.2 (by omega)
  obtain ⟨⟨a, i, p, f⟩, hx⟩ : ∃ x, L[k]? = some x := ⟨_, List.getElem?_eq_getElem (by rw [acs_len h]; exact hk)⟩
  obtain ⟨p0, p1, p2, p3⟩ := acs_get hx
  exact ⟨b, o, a, i, p, f, rfl, hb, hx, hc _ _ p0, by rw [Nat.add_assoc]; exact hc _ _ p1, by rw [Nat.add_assoc]; exact hc _ _ p2, by rw [Nat.add_assoc]; exact hc _ _ p3⟩

/-- The document's Find: the place. -/
def fidx (id : Int) : List Cl → Option Nat
  | [] => none
  | (i, _, _) :: r => if i = id then some 0 else (fidx id r).map (· + 1)
def fidI (id : Int) (L : List Cl) : Int := match fidx id L with
  | some k => (k : Int)
  | none => -1
theorem fidx_at {id : Int} {L : List Cl} {k : Nat} {i p : Int} {f : Bool} (h : L[k]? = some (i, p, f)) : fidx id (L.drop k) = if i = id then some 0 else (fidx id (L.drop (k + 1))).map (· + 1) := by
  obtain ⟨hk, e⟩ := List.getElem?_eq_some_iff.1 h
  rw [List.drop_eq_getElem_cons hk, e]
  rfl
theorem map_add (o : Option Nat) (a b : Nat) : (o.map (· + a)).map (· + b) = o.map (· + (a + b)) := by cases o <;> simp [Nat.add_assoc]

set_option maxHeartbeats 1000000 in
theorem rfind_any (A : Option Addr) (n c : Nat) (L : List Cl) (id : Int) (w : World) (h : ClAt w A n c L) :
    Calls Try.prog 21 #[.slice A n c, .int .i64 id] w fun e w' => e = .returned (.int .i64 (fidI id L)) ∧ w = w' := by
  have hbig := h.big
  have hlen := cl_length h
  have HL := Lib.hid hlen
  clear hlen
  go_enter Try.func21, Try.ntmps21
  go_wp2_with fail
  go_loopg [5] n (fun gk i wr => ∃ k : Nat, k + gk = n ∧ i = .int .i64 (k : Nat) ∧ w = wr ∧ Hid (fidx id L = (fidx id (L.drop k)).map (· + k)))
  case atStart => exact ⟨0, by omega, rfl, rfl, Lib.hid (by simp)⟩
  case round =>
    obtain ⟨k, hk, rfl, rfl, HR⟩ := hrel
    have HK := Lib.hid hk
    have hkn : k ≤ n := by omega
    clear hk
    by_cases hlt : k < n
    · obtain ⟨b, o, ci, cp, cf, rfl, hbb, hx, x0, x1, x2⟩ := cl_at h hlt
      have HX := Lib.hid (fidx_at (id := id) hx)
      have b0 : (0 : Int) ≤ (k : Int) := by omega
      have bk : (k : Int) < (n : Int) := by omega
      clear hx
      by_cases hge : ci = id
      · have e1 : fidI id L = (k : Int) := by unfold fidI; rw [HR.out, HX.out, if_pos hge]; simp
        have E1 := Lib.hid e1
        have hq : (ci == id) = true := by simp [hge]
        clear e1 HR HX
        subst hge
        go_wp2_with fail
        go_ret
        exact ⟨ret_int E1.out.symm, rfl⟩
      · have e1 : fidx id L = (fidx id (L.drop (k + 1))).map (· + (k + 1)) := by rw [HR.out, HX.out, if_neg hge, map_add]; rw [Nat.add_comm 1 k]
        have E1 := Lib.hid e1
        have hq : (ci == id) = false := by simp [hge]
        clear e1 HR HX
        go_wp2_with fail
        go_roundg (n - (k + 1))
        case measure => have := HK.out; omega
        case rel => exact ⟨k + 1, by omega, by go_num, rfl, E1⟩
    · obtain rfl : k = n := by omega
      have e1 : fidI id L = -1 := by
        unfold fidI
        rw [HR.out, List.drop_of_length_le (by rw [HL.out]; exact Nat.le_refl _)]; rfl
      have E1 := Lib.hid e1
      clear e1
      go_wp2_with fail
      go_ret
      exact ⟨ret_int E1.out.symm, rfl⟩

set_option maxHeartbeats 2000000 in
theorem rslow_any (A : Option Addr) (n c : Nat) (L : List Cl) (w : World) (h : ClAt w A n c L) :
    Calls Try.prog 19 #[.slice A n c] w fun e w' => e = .returned (.tuple #[.int .i64 (slowM L).1, .bool (slowM L).2]) ∧ w = w' := by
  have hbig := h.big
  have hlen := cl_length h
  have HL := Lib.hid hlen
  clear hlen
  go_enter Try.func19, Try.ntmps19
  go_wp2_with fail
  go_loopg [4, 5, 6] n (fun gk la so i wr => ∃ (k : Nat) (l : Int) (s : Bool), k + gk = n ∧ i = .int .i64 (k : Nat) ∧ la = .int .i64 l ∧ so = .bool s ∧ w = wr ∧ Hid (slowM L = slowF l s (L.drop k)))
  case atStart => exact ⟨0, 0, false, by omega, rfl, rfl, rfl, rfl, Lib.hid rfl⟩
  case round =>
    obtain ⟨k, l, s, hk, rfl, rfl, rfl, rfl, HR⟩ := hrel
    have HK := Lib.hid hk
    have hkn : k ≤ n := by omega
    clear hk
    by_cases hlt : k < n
    · obtain ⟨b, o, ci, cp, cf, rfl, hbb, hx, x0, x1, x2⟩ := cl_at h hlt
      have HX := Lib.hid (slowF_at (l := l) (s := s) hx)
      have b0 : (0 : Int) ≤ (k : Int) := by omega
      have bk : (k : Int) < (n : Int) := by omega
      clear hx
      cases cf
      · cases s
        · have E1 : Hid (slowM L = slowF cp true (L.drop (k + 1))) := Lib.hid (by rw [HR.out, HX.out]; simp)
          clear HR HX
          go_wp2_with fail
          go_roundg (n - (k + 1))
          case measure => have := HK.out; omega
          case rel => exact ⟨k + 1, cp, true, by omega, by go_num, rfl, rfl, rfl, E1⟩
        · by_cases hl : cp < l
          · have E1 : Hid (slowM L = slowF cp true (L.drop (k + 1))) := Lib.hid (by rw [HR.out, HX.out]; simp [hl])
            clear HR HX
            go_wp2_with fail
            go_roundg (n - (k + 1))
            case measure => have := HK.out; omega
            case rel => exact ⟨k + 1, cp, true, by omega, by go_num, rfl, rfl, rfl, E1⟩
          · have E1 : Hid (slowM L = slowF l true (L.drop (k + 1))) := Lib.hid (by rw [HR.out, HX.out]; simp [hl])
            clear HR HX
            go_wp2_with fail
            go_roundg (n - (k + 1))
            case measure => have := HK.out; omega
            case rel => exact ⟨k + 1, l, true, by omega, by go_num, rfl, rfl, rfl, E1⟩
      · have E1 : Hid (slowM L = slowF l s (L.drop (k + 1))) := Lib.hid (by rw [HR.out, HX.out]; simp)
        clear HR HX
        go_wp2_with fail
        go_roundg (n - (k + 1))
        case measure => have := HK.out; omega
        case rel => exact ⟨k + 1, l, s, by omega, by go_num, rfl, rfl, rfl, E1⟩
    · obtain rfl : k = n := by omega
      have e1 : slowM L = (l, s) := by
        rw [HR.out, List.drop_of_length_le (by rw [HL.out]; exact Nat.le_refl _)]; rfl
      have E1 := Lib.hid e1
      clear e1
      go_wp2_with fail
      refine bodyPost_ret (v := .tuple #[.int .i64 l, .bool s]) (by simp [results, Try.results19, go_sem]) rfl ?_
      rw [E1.out]
      exact ⟨rfl, rfl⟩
end Go.Proofs.Ytongakhcmdkeiaa
