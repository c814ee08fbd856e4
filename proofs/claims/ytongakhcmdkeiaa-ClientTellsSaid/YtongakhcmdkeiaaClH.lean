/- Find, Slowest, SameClients, one call: the walks. Conditions: those that each theorem states. -/
import Derived.Test.YtongakhcmdkeiaaClG
namespace Go.Proofs.Ytongakhcmdkeiaa
open Go.RowKit

def findC (id : Int) : List Cl → Option Cl
  | [] => none
  | (i, p, f) :: r => if i = id then some (i, p, f) else findC id r
theorem findC_at {id : Int} {L : List Cl} {k : Nat} {i p : Int} {f : Bool} (h : L[k]? = some (i, p, f)) : findC id (L.drop k) = if i = id then some (i, p, f) else findC id (L.drop (k + 1)) := by
  obtain ⟨hk, e⟩ := List.getElem?_eq_some_iff.1 h
  rw [List.drop_eq_getElem_cons hk, e]
  rfl
def noCl : Cl := (0, 0, false)
def FindRes (w : World) (id : Int) (L : List Cl) (e : Ending) (w' : World) : Prop :=
  e = .returned (.tuple #[.agg #[.int .i64 ((findC id L).getD noCl).1, .int .i64 ((findC id L).getD noCl).2.1, .bool ((findC id L).getD noCl).2.2], .bool (findC id L).isSome]) ∧ Below w.heap.size w w'

set_option maxHeartbeats 1000000 in
theorem find_any (A : Option Addr) (n c : Nat) (L : List Cl) (id : Int) (w : World) (h : ClAt w A n c L) :
    Calls Try.prog 20 #[.slice A n c, .int .i64 id] w fun e w' => FindRes w id L e w' := by
  have hbig := h.big
  have hlen := cl_length h
  have HL := Lib.hid hlen
  clear hlen
  go_enter Try.func20, Try.ntmps20
  go_wp2_with fail
  go_loopg [7, 10] n (fun gk _ i wr => ∃ k : Nat, k + gk = n ∧ i = .int .i64 (k : Nat) ∧ Below w.heap.size w wr ∧ wr.heap[w.heap.size]? = some (.cells #[.int .i64 0, .int .i64 0, .bool false] 42 (0, 0)) ∧ Hid (findC id L = findC id (L.drop k)))
  case atStart => exact ⟨0, by omega, rfl, (Below.refl _ _).alloc (Nat.le_refl _) _, blk_new rfl, Lib.hid rfl⟩
  case round =>
    obtain ⟨k, hk, rfl, hb, hc0, HR⟩ := hrel
    have HK := Lib.hid hk
    have hkn : k ≤ n := by omega
    clear hk
    have f0 := blk_cell hc0
    have z0 := blk_lt hc0
    have y0 := blk_frozen hc0
    by_cases hlt : k < n
    · obtain ⟨b, o, ci, cp, cf, rfl, hbb, hx, x0, x1, x2⟩ := cl_at (h.below hb) hlt
      have HX := Lib.hid (findC_at (id := id) hx)
      have b0 : (0 : Int) ≤ (k : Int) := by omega
      have bk : (k : Int) < (n : Int) := by omega
      have hs := hb.size
      clear hx
      by_cases hge : ci = id
      · have e1 : findC id L = some (ci, cp, cf) := by rw [HR.out, HX.out, if_pos hge]
        have E1 := Lib.hid e1
        have hq : (ci == id) = true := by simp [hge]
        clear e1 HR HX
        subst hge
        have zz : w.heap.size < wr.heap.size + 1 := by omega
        go_wp2_with fail
        refine bodyPost_ret (v := .tuple #[.agg #[.int .i64 ci, .int .i64 cp, .bool cf], .bool true]) (by simp [results, Try.results20, go_sem, f0, z0]) rfl ?_
        unfold FindRes
        rw [E1.out]
        refine ⟨rfl, ?_⟩
        repeat (first | with_reducible exact hb | with_reducible refine Below.setCell ?_ (by first | omega | (simp <;> omega)) _ | with_reducible refine Below.alloc ?_ (by first | omega | (simp <;> omega)) _)
      · have e1 : findC id L = findC id (L.drop (k + 1)) := by rw [HR.out, HX.out, if_neg hge]
        have E1 := Lib.hid e1
        have hq : (ci == id) = false := by simp [hge]
        clear e1 HR HX
        go_wp2_with fail
        go_roundg (n - (k + 1))
        case measure => have := HK.out; omega
        case rel => exact ⟨k + 1, by omega, by go_num, hb.alloc hs _, (blk_old z0).trans hc0, E1⟩
    · obtain rfl : k = n := by omega
      have e1 : findC id L = none := by
        rw [HR.out, List.drop_of_length_le (by rw [HL.out]; exact Nat.le_refl _)]; rfl
      have E1 := Lib.hid e1
      clear e1
      go_wp2_with fail
      refine bodyPost_ret (v := .tuple #[.agg #[.int .i64 0, .int .i64 0, .bool false], .bool false]) (by simp [results, Try.results20, go_sem, f0]) rfl ?_
      unfold FindRes
      rw [E1.out]
      refine ⟨rfl, ?_⟩
      repeat (first | with_reducible exact hb | with_reducible refine Below.setCell ?_ (by first | omega | (simp <;> omega)) _ | with_reducible refine Below.alloc ?_ (by first | omega | (simp <;> omega)) _)

/-- Up to where all that are waited for came. -/
def slowF : Int → Bool → List Cl → Int × Bool
  | l, s, [] => (l, s)
  | l, s, (_, p, f) :: r => if f = false ∧ (s = false ∨ p < l) then slowF p true r else slowF l s r
def slowM (L : List Cl) : Int × Bool := slowF 0 false L
theorem slowF_at {l : Int} {s : Bool} {L : List Cl} {k : Nat} {i p : Int} {f : Bool} (h : L[k]? = some (i, p, f)) : slowF l s (L.drop k) = if f = false ∧ (s = false ∨ p < l) then slowF p true (L.drop (k + 1)) else slowF l s (L.drop (k + 1)) := by
  obtain ⟨hk, e⟩ := List.getElem?_eq_some_iff.1 h
  rw [List.drop_eq_getElem_cons hk, e]
  rfl

set_option maxHeartbeats 1000000 in
theorem slow_any (A : Option Addr) (n c : Nat) (L : List Cl) (w : World) (h : ClAt w A n c L) :
    Calls Try.prog 18 #[.slice A n c] w fun e w' => e = .returned (.tuple #[.int .i64 (slowM L).1, .bool (slowM L).2]) ∧ Below w.heap.size w w' := by
  have hbig := h.big
  have hlen := cl_length h
  have HL := Lib.hid hlen
  clear hlen
  go_enter Try.func18, Try.ntmps18
  go_wp2_with fail
  go_loopg [4, 5, 7, 10] n (fun gk la so _ i wr => ∃ (k : Nat) (l : Int) (s : Bool), k + gk = n ∧ i = .int .i64 (k : Nat) ∧ la = .int .i64 l ∧ so = .bool s ∧ Below w.heap.size w wr ∧ Hid (slowM L = slowF l s (L.drop k)))
  case atStart => exact ⟨0, 0, false, by omega, rfl, rfl, rfl, Below.refl _ _, Lib.hid rfl⟩
  case round =>
    obtain ⟨k, l, s, hk, rfl, rfl, rfl, hb, HR⟩ := hrel
    have HK := Lib.hid hk
    have hkn : k ≤ n := by omega
    clear hk
    by_cases hlt : k < n
    · obtain ⟨b, o, ci, cp, cf, rfl, hbb, hx, x0, x1, x2⟩ := cl_at (h.below hb) hlt
      have HX := Lib.hid (slowF_at (l := l) (s := s) hx)
      have b0 : (0 : Int) ≤ (k : Int) := by omega
      have bk : (k : Int) < (n : Int) := by omega
      have hs := hb.size
      clear hx
      cases cf
      · cases s
        · have E1 : Hid (slowM L = slowF cp true (L.drop (k + 1))) := Lib.hid (by rw [HR.out, HX.out]; simp)
          clear HR HX
          go_wp2_with fail
          go_roundg (n - (k + 1))
          case measure => have := HK.out; omega
          case rel => exact ⟨k + 1, cp, true, by omega, by go_num, rfl, rfl, hb.alloc hs _, E1⟩
        · by_cases hl : cp < l
          · have E1 : Hid (slowM L = slowF cp true (L.drop (k + 1))) := Lib.hid (by rw [HR.out, HX.out]; simp [hl])
            clear HR HX
            go_wp2_with fail
            go_roundg (n - (k + 1))
            case measure => have := HK.out; omega
            case rel => exact ⟨k + 1, cp, true, by omega, by go_num, rfl, rfl, hb.alloc hs _, E1⟩
          · have E1 : Hid (slowM L = slowF l true (L.drop (k + 1))) := Lib.hid (by rw [HR.out, HX.out]; simp [hl])
            clear HR HX
            go_wp2_with fail
            go_roundg (n - (k + 1))
            case measure => have := HK.out; omega
            case rel => exact ⟨k + 1, l, true, by omega, by go_num, rfl, rfl, hb.alloc hs _, E1⟩
      · have E1 : Hid (slowM L = slowF l s (L.drop (k + 1))) := Lib.hid (by rw [HR.out, HX.out]; simp)
        clear HR HX
        go_wp2_with fail
        go_roundg (n - (k + 1))
        case measure => have := HK.out; omega
        case rel => exact ⟨k + 1, l, s, by omega, by go_num, rfl, rfl, hb.alloc hs _, E1⟩
    · obtain rfl : k = n := by omega
      have e1 : slowM L = (l, s) := by
        rw [HR.out, List.drop_of_length_le (by rw [HL.out]; exact Nat.le_refl _)]; rfl
      have E1 := Lib.hid e1
      clear e1
      go_wp2_with fail
      refine bodyPost_ret (v := .tuple #[.int .i64 l, .bool s]) (by simp [results, Try.results18, go_sem]) rfl ?_
      rw [E1.out]
      exact ⟨rfl, hb⟩

set_option maxHeartbeats 1000000 in
theorem same_any (A1 A2 : Option Addr) (n c1 c2 : Nat) (L : List Cl) (w : World) (h1 : ClAt w A1 n c1 L) (h2 : ClAt w A2 n c2 L) :
    Calls Try.prog 12 #[.slice A1 n c1, .slice A2 n c2] w fun e w' => e = .returned (.bool true) ∧ Below w.heap.size w w' := by
  have hlen := cl_length h1
  have hbig := h1.big
  have HL := Lib.hid hlen
  clear hlen
  have dn : ((n : Int) != (n : Int)) = false := by simp
  go_enter Try.func12, Try.ntmps12
  go_wp2_with fail
  go_loopg [5] n (fun gk i wr => ∃ (k nq : Nat), k + gk = n ∧ i = .int .i64 (k : Nat) ∧ w.drewN nq = wr)
  case atStart => exact ⟨0, 0, by omega, rfl, rfl⟩
  case round =>
    obtain ⟨k, nq, hk, rfl, hwr⟩ := hrel
    have HK := Lib.hid hk
    have hkn : k ≤ n := by omega
    clear hk
    by_cases hlt : k < n
    · obtain ⟨b1, o1, ci, cp, cf, rfl, hb1, hx1, x0, x1, x2⟩ := cl_at (h1.drewN nq) hlt
      obtain ⟨b2, o2, ci', cp', cf', rfl, hb2, hx2, y0, y1, y2⟩ := cl_at (h2.drewN nq) hlt
      rw [hx1] at hx2
      injection hx2 with hx2
      simp only [Prod.mk.injEq] at hx2
      obtain ⟨rfl, rfl, rfl⟩ := hx2
      have HWR := Lib.hid hwr
      rw [hwr] at x0 x1 x2 y0 y1 y2
      have b0 : (0 : Int) ≤ (k : Int) := by omega
      have bk : (k : Int) < (n : Int) := by omega
      clear hwr hx1
      go_wp2_with fail
      go_quiet (fail)
      go_wp2_with fail
      go_roundg (n - (k + 1))
      case measure => have := HK.out; omega
      case rel => exact ⟨k + 1, _, by omega, by go_num, by rw [← HWR.out, World.drewN_drewN]⟩
    · obtain rfl : k = n := by omega
      go_wp2_with fail
      go_ret
      exact ⟨rfl, by rw [← hwr]; exact below_drewN (Below.refl _ _) _⟩

def oneM (L : List Cl) (a : Int) (id pos : Int) (off : Bool) : List Cl × Int := if a = 0 then addM L id pos else if a = 1 then dropM L id else if a = 2 then commitM L id pos else turnM L id off
theorem one_any (A : Option Addr) (n c : Nat) (L : List Cl) (a id pos : Int) (off : Bool) (w : World) (h : ClAt w A n c L) :
    Calls Try.prog 9 #[.slice A n c, .agg #[.int .i64 a, .int .i64 id, .int .i64 pos, .bool off]] w fun e w' => OneRes w (oneM L a id pos off) e w' := by
  have fin : ∀ {R : List Cl × Int} {e : Ending} {w' : World} {o : Obj}, OneRes (w.alloc o) R e w' → ∃ A' n' c', e = .returned (.tuple #[.slice A' n' c', .int .i64 R.2]) ∧ w'.ownsRow w.heap.size 42 3 (.slice A' n' c') n' (clc R.1) ∧ Below w.heap.size w w' := by
    rintro R e w' o ⟨A', n', c', h1, h2, h3⟩
    exact ⟨A', n', c', h1, own_more h2 (by simp), ((Below.refl _ _).alloc (Nat.le_refl _) _).trans (h3.mono (by simp))⟩
  have ha : ClAt (w.alloc (.cells #[.int .i64 a, .int .i64 id, .int .i64 pos, .bool off] 29)) A n c L := h.next ((Below.refl _ _).alloc (Nat.le_refl _) _)
  by_cases h0 : a = 0
  · have q0 : (a == 0) = true := by simp [h0]
    have E : Hid (oneM L a id pos off = addM L id pos) := Lib.hid (by unfold oneM; rw [if_pos h0])
    clear h0
    go_enter Try.func9, Try.ntmps9
    go_wp2_with fail
    refine (add_any _ _ _ L _ _ _ ha).mono ?_
    rintro e w1 h1
    obtain ⟨A', n', c', rfl, h2, h3⟩ := fin h1
    clear h1 fin
    go_wp2_with fail
    refine bodyPost_ret (v := .tuple #[.slice A' n' c', .int .i64 (addM L id pos).2]) (by simp [results, Try.results9, go_sem]) rfl ?_
    rw [E.out]
    exact ⟨A', n', c', rfl, h2, h3⟩
  have q0 : (a == 0) = false := by simp [h0]
  by_cases h1 : a = 1
  · have q1 : (a == 1) = true := by simp [h1]
    have E : Hid (oneM L a id pos off = dropM L id) := Lib.hid (by unfold oneM; rw [if_neg h0, if_pos h1])
    clear h0 h1
    go_enter Try.func9, Try.ntmps9
    go_wp2_with fail
    refine (drop_any _ _ _ L _ _ ha).mono ?_
    rintro e w1 h1
    obtain ⟨A', n', c', rfl, h2, h3⟩ := fin h1
    clear h1 fin
    go_wp2_with fail
    refine bodyPost_ret (v := .tuple #[.slice A' n' c', .int .i64 (dropM L id).2]) (by simp [results, Try.results9, go_sem]) rfl ?_
    rw [E.out]
    exact ⟨A', n', c', rfl, h2, h3⟩
  have q1 : (a == 1) = false := by simp [h1]
  by_cases h2 : a = 2
  · have q2 : (a == 2) = true := by simp [h2]
    have E : Hid (oneM L a id pos off = commitM L id pos) := Lib.hid (by unfold oneM; rw [if_neg h0, if_neg h1, if_pos h2])
    clear h0 h1 h2
    go_enter Try.func9, Try.ntmps9
    go_wp2_with fail
    refine (commit_any _ _ _ L _ _ _ ha).mono ?_
    rintro e w1 h1
    obtain ⟨A', n', c', rfl, h2, h3⟩ := fin h1
    clear h1 fin
    go_wp2_with fail
    refine bodyPost_ret (v := .tuple #[.slice A' n' c', .int .i64 (commitM L id pos).2]) (by simp [results, Try.results9, go_sem]) rfl ?_
    rw [E.out]
    exact ⟨A', n', c', rfl, h2, h3⟩
  have q2 : (a == 2) = false := by simp [h2]
  have E : Hid (oneM L a id pos off = turnM L id off) := Lib.hid (by unfold oneM; rw [if_neg h0, if_neg h1, if_neg h2])
  clear h0 h1 h2
  go_enter Try.func9, Try.ntmps9
  go_wp2_with fail
  refine (turn_any _ _ _ L _ _ _ ha).mono ?_
  rintro e w1 h1
  obtain ⟨A', n', c', rfl, h2, h3⟩ := fin h1
  clear h1 fin
  go_wp2_with fail
  refine bodyPost_ret (v := .tuple #[.slice A' n' c', .int .i64 (turnM L id off).2]) (by simp [results, Try.results9, go_sem]) rfl ?_
  rw [E.out]
  exact ⟨A', n', c', rfl, h2, h3⟩
end Go.Proofs.Ytongakhcmdkeiaa
