/- The calls on a list of clients: what they answer, and their walks (place, known, Find). Conditions: those that each theorem states. -/
import Derived.Test.YtongakhcmdkeiaaClE
namespace Go.Proofs.Ytongakhcmdkeiaa
open Go.RowKit

theorem ins_any (B n c i vb : Nat) (A : Option Addr) (xs : List Value) (x y z : Value) (w : World) (h : w.ownsRow B 42 3 (.slice A n c) n xs) (hn : n ≤ 1000) (hi : i ≤ n) (h0 : ∀ u ∈ xs, u.oneCell' = true) (hB : B ≤ w.heap.size)
    (hv : w.heap[vb]? = some (.cells #[x, y, z] 42 (0, 0))) (h1 : ∀ u ∈ [x, y, z], u.oneCell' = true) (hne : some vb ≠ (Value.slice A n c).ownBlock) :
    Calls Try.prog 36 #[.slice A n c, .int .i64 (i : Nat), .slice (some ⟨vb, 0, none⟩) 1 1] w fun e w' => ∃ A' c', e = .returned (.slice A' (n + 1) c') ∧ w'.ownsRow B 42 3 (.slice A' (n + 1) c') (n + 1) (insV xs [x, y, z] i) ∧ Below B w w' := by
  by_cases hin : i = n
  · subst hin
    refine (ins_end B i c vb A xs x y z w h hn hB hv h1).mono ?_
    rintro e w' ⟨A', c', rfl, h2, h3⟩
    refine ⟨A', c', rfl, ?_, h3⟩
    have hl := h.1
    unfold insV
    rw [List.take_of_length_le (by omega), List.drop_of_length_le (by omega), List.append_nil]
    exact h2
  · rcases own_addr h with ⟨rfl, rfl, rfl⟩ | ⟨g, rfl⟩
    · omega
    · by_cases hr : n + 1 ≤ c
      · refine (ins_room B g n c i vb xs x y z w h hn (by omega) hr h0 hv h1 (by intro e; exact hne (by rw [e]; rfl))).mono ?_
        rintro e w' ⟨rfl, h2, h3⟩
        exact ⟨_, _, rfl, h2, (Below.refl B w).grown h3 hB fun k hk => (h.lt k (by rw [← hk]; rfl)).1⟩
      · exact ins_grow_any B g n c i vb xs x y z w h hn (by omega) (by omega) h0 hB hv h1

def placeN (id : Int) : List Cl → Nat
  | [] => 0
  | (i, _, _) :: r => if id ≤ i then 0 else placeN id r + 1
theorem placeN_le (id : Int) : ∀ L, placeN id L ≤ L.length
  | [] => Nat.le_refl _
  | (i, _, _) :: r => by
    have := placeN_le id r
    simp only [placeN, List.length_cons]
    split <;> omega
def inB (id : Int) (L : List Cl) : Bool := match L[placeN id L]? with
  | some (i, _, _) => i == id
  | none => false
theorem placeN_at {id : Int} {L : List Cl} {k : Nat} {i p : Int} {f : Bool} (h : L[k]? = some (i, p, f)) : placeN id (L.drop k) = if id ≤ i then 0 else placeN id (L.drop (k + 1)) + 1 := by
  obtain ⟨hk, e⟩ := List.getElem?_eq_some_iff.1 h
  rw [List.drop_eq_getElem_cons hk, e]
  rfl
theorem inB_at {id : Int} {L : List Cl} {k : Nat} {i p : Int} {f : Bool} (h : L[k]? = some (i, p, f)) (hk : placeN id L = k) : inB id L = (i == id) := by
  unfold inB
  rw [hk, h]
theorem inB_is {id : Int} {L : List Cl} (h : inB id L = true) : ∃ p f, L[placeN id L]? = some (id, p, f) := by
  unfold inB at h
  split at h
  · rename_i i p f e
    have : i = id := by simpa using h
    subst this
    exact ⟨p, f, e⟩
  · cases h

set_option maxHeartbeats 1000000 in
theorem place_any (A : Option Addr) (n c : Nat) (L : List Cl) (id : Int) (w : World) (h : ClAt w A n c L) :
    Calls Try.prog 35 #[.slice A n c, .int .i64 id] w fun e w' => e = .returned (.tuple #[.int .i64 (placeN id L : Nat), .bool (inB id L)]) ∧ Below w.heap.size w w' := by
  have hbig := h.big
  have hlen := cl_length h
  have HL := Lib.hid hlen
  clear hlen
  go_enter Try.func35, Try.ntmps35
  go_wp2_with fail
  go_loopg [6, 7, 10] n (fun gk _ _ i wr => ∃ k : Nat, k + gk = n ∧ i = .int .i64 (k : Nat) ∧ Below w.heap.size w wr ∧ Hid (placeN id L = k + placeN id (L.drop k)))
  case atStart => exact ⟨0, by omega, rfl, Below.refl _ _, Lib.hid (by simp)⟩
  case round =>
    obtain ⟨k, hk, rfl, hb, HR⟩ := hrel
    have HK := Lib.hid hk
    have hkn : k ≤ n := by omega
    clear hk
    by_cases hlt : k < n
    · obtain ⟨b, o, ci, cp, cf, rfl, hbb, hx, x0, x1, x2⟩ := cl_at (h.below hb) hlt
      have HX := Lib.hid hx
      have b0 : (0 : Int) ≤ (k : Int) := by omega
      have bk : (k : Int) < (n : Int) := by omega
      have hs := hb.size
      clear hx
      by_cases hge : id ≤ ci
      · have e1 : placeN id L = k := by rw [HR.out, placeN_at HX.out, if_pos hge]; rfl
        have e2 := inB_at HX.out e1
        have E1 := Lib.hid e1
        have E2 := Lib.hid e2
        clear e1 e2
        go_wp2_with fail
        go_quiet (fail)
        go_wp2_with fail
        refine bodyPost_ret (v := .tuple #[.int .i64 (k : Nat), .bool (ci == id)]) (by simp [results, Try.results35, go_sem]) rfl ?_
        refine ⟨?_, by repeat (first | with_reducible exact hb | with_reducible refine below_drewN ?_ _ | with_reducible refine Below.drew ?_ | with_reducible refine Below.alloc ?_ (by first | omega | (simp <;> omega)) _)⟩
        rw [E1.out, E2.out]
      · have hge2 : ¬ id ≤ ci := hge
        have e1 : placeN id L = k + 1 + placeN id (L.drop (k + 1)) := by rw [HR.out, placeN_at HX.out, if_neg hge]; omega
        have E1 := Lib.hid e1
        clear e1
        go_wp2_with fail
        go_roundg (n - (k + 1))
        case measure => have := HK.out; omega
        case rel => exact ⟨k + 1, by omega, by go_num, hb.alloc hs _, E1⟩
    · obtain rfl : k = n := by omega
      have e1 : placeN id L = k := by
        rw [HR.out, List.drop_of_length_le (by rw [HL.out]; exact Nat.le_refl _)]; rfl
      have e2 : inB id L = false := by
        unfold inB
        rw [e1, List.getElem?_eq_none (by rw [HL.out]; exact Nat.le_refl _)]
      have E1 := Lib.hid e1
      have E2 := Lib.hid e2
      clear e1 e2
      go_wp2_with fail
      refine bodyPost_ret (v := .tuple #[.int .i64 (k : Nat), .bool false]) (by simp [results, Try.results35, go_sem]) rfl ?_
      rw [E1.out, E2.out]
      exact ⟨rfl, hb⟩

/-- known: where a client stands; the error. -/
def knownM (L : List Cl) (id pos : Int) : Nat × Int := if rightB L && mayB id pos then (if inB id L then (placeN id L, 0) else (0, 4)) else (0, 1)
theorem cknown_any (A : Option Addr) (n c : Nat) (L : List Cl) (id pos : Int) (w : World) (h : ClAt w A n c L) :
    Calls Try.prog 38 #[.slice A n c, .int .i64 id, .int .i64 pos] w fun e w' => e = .returned (.tuple #[.int .i64 ((knownM L id pos).1 : Nat), .int .i64 (knownM L id pos).2]) ∧ Below w.heap.size w w' := by
  go_enter Try.func38, Try.ntmps38
  go_wp2_with fail
  refine (right_any _ _ _ _ _ h).mono ?_
  rintro e w1 ⟨rfl, hb1⟩
  cases hr : rightB L
  · go_wp2_with fail
    refine bodyPost_ret (v := .tuple #[.int .i64 0, .int .i64 1]) (by simp [results, Try.results38, go_sem]) rfl ?_
    simp only [knownM, hr, Bool.false_and]
    exact ⟨rfl, hb1⟩
  · go_wp2_with fail
    refine (may_any _ _ _).mono ?_
    rintro e w2 ⟨rfl, rfl⟩
    cases hm : mayB id pos
    · go_wp2_with fail
      refine bodyPost_ret (v := .tuple #[.int .i64 0, .int .i64 1]) (by simp [results, Try.results38, go_sem]) rfl ?_
      simp only [knownM, hr, hm, Bool.and_false]
      exact ⟨rfl, hb1⟩
    · go_wp2_with fail
      refine (place_any _ _ _ L _ _ (h.next hb1)).mono ?_
      rintro e w2 ⟨rfl, hb2⟩
      cases hi : inB id L
      · go_wp2_with fail
        refine bodyPost_ret (v := .tuple #[.int .i64 0, .int .i64 4]) (by simp [results, Try.results38, go_sem]) rfl ?_
        simp only [knownM, hr, hm, hi, Bool.and_true, if_true]
        exact ⟨rfl, hb1.trans (hb2.mono hb1.size)⟩
      · go_wp2_with fail
        refine bodyPost_ret (v := .tuple #[.int .i64 (placeN id L : Nat), .int .i64 0]) (by simp [results, Try.results38, go_sem]) rfl ?_
        simp only [knownM, hr, hm, hi, Bool.and_true, if_true]
        exact ⟨trivial, hb1.trans (hb2.mono hb1.size)⟩
end Go.Proofs.Ytongakhcmdkeiaa
