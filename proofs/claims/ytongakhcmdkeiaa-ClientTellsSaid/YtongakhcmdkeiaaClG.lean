/- Add, Drop, Commit, Turn: the walks. Conditions: those that each theorem states. -/
import Derived.Test.YtongakhcmdkeiaaClF
namespace Go.Proofs.Ytongakhcmdkeiaa
open Go.RowKit

theorem clc_set1 : ∀ {L : List Cl} {k : Nat} {i p : Int} {f : Bool} (q : Int), L[k]? = some (i, p, f) → (clc L).set (k * 3 + 1) (.int .i64 q) = clc (L.set k (i, q, f))
  | [], k, _, _, _, _, h => by simp at h
  | (_, _, _) :: r, 0, _, _, _, q, h => by
    simp at h
    obtain ⟨rfl, rfl, rfl⟩ := h
    rfl
  | (_, _, _) :: r, k + 1, i, p, f, q, h => by
    rw [show (k + 1) * 3 + 1 = k * 3 + 1 + 1 + 1 + 1 by omega]
    simp only [clc, List.getElem?_cons_succ, List.set_cons_succ] at h ⊢
    rw [clc_set1 q h]
theorem clc_set2 : ∀ {L : List Cl} {k : Nat} {i p : Int} {f : Bool} (g : Bool), L[k]? = some (i, p, f) → (clc L).set (k * 3 + 2) (.bool g) = clc (L.set k (i, p, g))
  | [], k, _, _, _, _, h => by simp at h
  | (_, _, _) :: r, 0, _, _, _, q, h => by
    simp at h
    obtain ⟨rfl, rfl, rfl⟩ := h
    rfl
  | (_, _, _) :: r, k + 1, i, p, f, q, h => by
    rw [show (k + 1) * 3 + 2 = k * 3 + 2 + 1 + 1 + 1 by omega]
    simp only [clc, List.getElem?_cons_succ, List.set_cons_succ] at h ⊢
    rw [clc_set2 q h]
def insC (L : List Cl) (k : Nat) (x : Cl) : List Cl := L.take k ++ [x] ++ L.drop k
theorem clc_ins (L : List Cl) (k : Nat) (i p : Int) (f : Bool) : clc (insC L k (i, p, f)) = insV (clc L) [.int .i64 i, .int .i64 p, .bool f] k := by
  unfold insC insV
  rw [clc_append, clc_append, clc_take, clc_drop]
  rfl
def setP (L : List Cl) (k : Nat) (q : Int) : List Cl := match L[k]? with
  | some (i, p, f) => L.set k (i, max p q, f)
  | none => L
def setO (L : List Cl) (k : Nat) (g : Bool) : List Cl := match L[k]? with
  | some (i, p, _) => L.set k (i, p, g)
  | none => L

def addM (L : List Cl) (id pos : Int) : List Cl × Int := if rightB L && mayB id pos then (if inB id L then ([], 5) else if L.length = 4 then ([], 6) else (insC L (placeN id L) (id, pos, false), 0)) else ([], 1)
def dropM (L : List Cl) (id : Int) : List Cl × Int := if (knownM L id 0).2 = 0 then (L.take (knownM L id 0).1 ++ L.drop ((knownM L id 0).1 + 1), 0) else ([], (knownM L id 0).2)
def commitM (L : List Cl) (id pos : Int) : List Cl × Int := if (knownM L id pos).2 = 0 then (setP L (knownM L id pos).1 pos, 0) else ([], (knownM L id pos).2)
def turnM (L : List Cl) (id : Int) (off : Bool) : List Cl × Int := if (knownM L id 0).2 = 0 then (setO L (knownM L id 0).1 off, 0) else ([], (knownM L id 0).2)
theorem knownM_ok {L : List Cl} {id pos : Int} (h : (knownM L id pos).2 = 0) : rightB L = true ∧ mayB id pos = true ∧ inB id L = true ∧ (knownM L id pos).1 = placeN id L := by
  unfold knownM at h ⊢
  cases hr : rightB L <;> cases hm : mayB id pos <;> cases hi : inB id L <;> simp [hr, hm, hi] at h ⊢
theorem rightB_len {L : List Cl} (h : rightB L = true) : L.length ≤ 4 := by simp [rightB] at h; omega

/-- What a call gives back. -/
def OneRes (w : World) (R : List Cl × Int) (e : Ending) (w' : World) : Prop :=
  ∃ A' n' c', e = .returned (.tuple #[.slice A' n' c', .int .i64 R.2]) ∧ w'.ownsRow w.heap.size 42 3 (.slice A' n' c') n' (clc R.1) ∧ Below w.heap.size w w'
theorem one_none {w w' : World} {e : Ending} (k : Int) (h : e = .returned (.tuple #[.slice none 0 0, .int .i64 k])) (hb : Below w.heap.size w w') : OneRes w ([], k) e w' :=
  ⟨none, 0, 0, h, World.ownsRow_nil _ _ _ _, hb⟩

set_option maxHeartbeats 1000000 in
theorem add_any (A : Option Addr) (n c : Nat) (L : List Cl) (id pos : Int) (w : World) (h : ClAt w A n c L) :
    Calls Try.prog 23 #[.slice A n c, .int .i64 id, .int .i64 pos] w fun e w' => OneRes w (addM L id pos) e w' := by
  have hlen := cl_length h
  go_enter Try.func23, Try.ntmps23
  go_wp2_with fail
  refine (right_any _ _ _ _ _ h).mono ?_
  rintro e w1 ⟨rfl, hb1⟩
  cases hr : rightB L
  · go_wp2_with fail
    refine bodyPost_ret (v := .tuple #[.slice none 0 0, .int .i64 1]) (by simp [results, Try.results23, go_sem]) rfl ?_
    simp only [addM, hr, Bool.false_and]
    exact one_none 1 rfl hb1
  · have hn : n ≤ 4 := by have := rightB_len hr; omega
    go_wp2_with fail
    refine (may_any _ _ _).mono ?_
    rintro e w2 ⟨rfl, rfl⟩
    cases hm : mayB id pos
    · go_wp2_with fail
      refine bodyPost_ret (v := .tuple #[.slice none 0 0, .int .i64 1]) (by simp [results, Try.results23, go_sem]) rfl ?_
      simp only [addM, hr, hm, Bool.and_false]
      exact one_none 1 rfl hb1
    · go_wp2_with fail
      refine (place_any _ _ _ L _ _ (h.next hb1)).mono ?_
      rintro e w2 ⟨rfl, hb2⟩
      have hb12 := hb1.trans (hb2.mono hb1.size)
      cases hi : inB id L
      · by_cases h4 : n = 4
        · have h4L : L.length = 4 := by omega
          have g4 : ((n : Int) == 4) = true := by subst h4; rfl
          go_wp2_with fail
          refine bodyPost_ret (v := .tuple #[.slice none 0 0, .int .i64 6]) (by simp [results, Try.results23, go_sem]) rfl ?_
          simp only [addM, hr, hm, hi, Bool.and_true, if_true, h4L]
          exact one_none 6 rfl hb12
        · have h4L : ¬ L.length = 4 := by omega
          have g4 : ((n : Int) == 4) = false := by simp; omega
          have hpl := placeN_le id L
          rw [hlen] at hpl
          have HLn := Lib.hid hlen
          have HH4 := Lib.hid h4L
          have HPL := Lib.hid hpl
          clear h4L hpl hlen
          go_wp2_with fail
          refine (clone_any A n c (clc L) _ (h.next hb12) (clc_oneCell L) (by omega)).mono ?_
          rintro e w3 ⟨A3, c3, rfl, hown3, hb3⟩
          have hb13 := hb12.trans (hb3.mono hb12.size)
          go_wp2_with fail
          refine (ins_any w2.heap.size n c3 (placeN id L) w3.heap.size A3 (clc L) (.int .i64 id) (.int .i64 pos) (.bool false) _ (hown3.alloc _) (by omega) HPL.out (clc_oneCell L) (by have := hb3.size; simp; omega) (blk_new rfl) (by intro u hu; simp at hu; rcases hu with rfl | rfl | rfl <;> rfl) (by intro e; have := (own_lt hown3 e.symm).2; omega)).mono ?_
          rintro e w4 ⟨A4, c4, rfl, hown4, hb4⟩
          go_wp2_with fail
          refine bodyPost_ret (v := .tuple #[.slice A4 (n + 1) c4, .int .i64 0]) (by simp [results, Try.results23, go_sem]) rfl ?_
          have e4 : addM L id pos = (insC L (placeN id L) (id, pos, false), 0) := by simp [addM, hr, hm, hi, HH4.out]
          rw [e4]
          refine ⟨A4, n + 1, c4, rfl, ?_, ?_⟩
          · rw [clc_ins]
            exact own_more hown4 hb12.size
          · exact (hb13.alloc hb13.size _).trans (hb4.mono hb12.size)
      · go_wp2_with fail
        refine bodyPost_ret (v := .tuple #[.slice none 0 0, .int .i64 5]) (by simp [results, Try.results23, go_sem]) rfl ?_
        simp only [addM, hr, hm, hi, Bool.and_true, if_true]
        exact one_none 5 rfl hb12

set_option maxHeartbeats 1000000 in
theorem drop_any (A : Option Addr) (n c : Nat) (L : List Cl) (id : Int) (w : World) (h : ClAt w A n c L) :
    Calls Try.prog 26 #[.slice A n c, .int .i64 id] w fun e w' => OneRes w (dropM L id) e w' := by
  have hlen := cl_length h
  go_enter Try.func26, Try.ntmps26
  go_wp2_with fail
  refine (cknown_any _ _ _ L _ _ _ h).mono ?_
  rintro e w1 ⟨rfl, hb1⟩
  by_cases hk : (knownM L id 0).2 = 0
  · obtain ⟨hr, hm, hi, hp⟩ := knownM_ok hk
    obtain ⟨cp, cf, hx⟩ := inB_is hi
    have e4 : dropM L id = (L.take (placeN id L) ++ L.drop (placeN id L + 1), 0) := by unfold dropM; rw [if_pos hk, hp]
    rw [hp, hk]
    have E4 := Lib.hid e4
    have hn : n ≤ 4 := by have := rightB_len hr; omega
    have hin : placeN id L < n := by have := (List.getElem?_eq_some_iff.1 hx).1; omega
    clear hk hp hx hr hm hi hlen e4
    go_wp2_with fail
    refine (clone_any A n c (clc L) _ (h.next hb1) (clc_oneCell L) (by omega)).mono ?_
    rintro e w3 ⟨A3, c3, rfl, hown3, hb3⟩
    have hb13 := hb1.trans (hb3.mono hb1.size)
    rcases own_addr hown3 with ⟨rfl, rfl, rfl⟩ | ⟨g, rfl⟩
    · omega
    have hz : IntKind.i64.wrap ((placeN id L : Int) + 1) = (placeN id L : Int) + 1 := IntWalk.i64_in _ (by omega)
    go_wp2_with fail
    refine (del_any w1.heap.size g n c3 (placeN id L) (clc L) _ hown3 (clc_oneCell L) hin).mono ?_
    rintro e w4 ⟨rfl, hown4, hg4⟩
    go_wp2_with fail
    refine bodyPost_ret (v := .tuple #[.slice (some ⟨g, 0, none⟩) (n - 1) c3, .int .i64 0]) (by simp [results, Try.results26, go_sem]) rfl ?_
    rw [E4.out]
    refine ⟨_, _, _, rfl, ?_, ?_⟩
    · rw [clc_append, clc_take, clc_drop]
      exact own_more hown4 hb1.size
    · exact hb13.grown hg4 (by have := hb13.size; omega) fun k hk => by
        have := (hown3.lt k (by rw [← hk]; rfl)).1
        have := hb1.size
        omega
  · have e4 : dropM L id = ([], (knownM L id 0).2) := by unfold dropM; rw [if_neg hk]
    obtain ⟨ee, hee⟩ : ∃ ee, ee = (knownM L id 0).2 := ⟨_, rfl⟩
    rw [← hee] at hk e4 ⊢
    have E4 := Lib.hid e4
    clear hee e4
    have hk2 : (ee != 0) = true := by simp [hk]
    go_wp2_with fail
    refine bodyPost_ret (v := .tuple #[.slice none 0 0, .int .i64 ee]) (by simp [results, Try.results26, go_sem]) rfl ?_
    rw [E4.out]
    exact one_none _ rfl hb1

set_option maxHeartbeats 1000000 in
theorem commit_any (A : Option Addr) (n c : Nat) (L : List Cl) (id pos : Int) (w : World) (h : ClAt w A n c L) :
    Calls Try.prog 24 #[.slice A n c, .int .i64 id, .int .i64 pos] w fun e w' => OneRes w (commitM L id pos) e w' := by
  have hlen := cl_length h
  go_enter Try.func24, Try.ntmps24
  go_wp2_with fail
  refine (cknown_any _ _ _ L _ _ _ h).mono ?_
  rintro e w1 ⟨rfl, hb1⟩
  by_cases hk : (knownM L id pos).2 = 0
  · obtain ⟨hr, hm, hi, hp⟩ := knownM_ok hk
    obtain ⟨cp, cf, hx⟩ := inB_is hi
    have e4 : commitM L id pos = (setP L (placeN id L) pos, 0) := by unfold commitM; rw [if_pos hk, hp]
    have e5 : setP L (placeN id L) pos = L.set (placeN id L) (id, max cp pos, cf) := by unfold setP; rw [hx]
    rw [hp, hk]
    rw [e5] at e4
    have E4 := Lib.hid e4
    have hn : n ≤ 4 := by have := rightB_len hr; omega
    have hin : placeN id L < n := by have := (List.getElem?_eq_some_iff.1 hx).1; omega
    have HX := Lib.hid hx
    clear hk hp hx hr hm hi hlen e4 e5
    obtain ⟨k, hkk⟩ : ∃ k, k = placeN id L := ⟨_, rfl⟩
    rw [← hkk] at HX hin E4 ⊢
    clear hkk
    go_wp2_with fail
    refine (clone_any A n c (clc L) _ (h.next hb1) (clc_oneCell L) (by omega)).mono ?_
    rintro e w3 ⟨A3, c3, rfl, hown3, hb3⟩
    have hb13 := hb1.trans (hb3.mono hb1.size)
    obtain ⟨g, rfl, hbg, hgl, hc, hf⟩ := own_at hown3 (clc_get HX.out).2.1
    have b0 : (0 : Int) ≤ (k : Int) := by omega
    have bk : (k : Int) < (n : Int) := by omega
    have HO := Lib.hid hown3
    clear hown3
    go_wp2_with fail
    all_goals
      refine bodyPost_ret (v := .tuple #[.slice (some ⟨g, 0, none⟩) n c3, .int .i64 0]) (by simp [results, Try.results24, go_sem]) rfl ?_
      rw [E4.out]
      refine ⟨_, _, _, rfl, ?_, ?_⟩
      · first
          | rw [show max cp pos = pos by omega, ← clc_set1 _ HX.out]
          | rw [show max cp pos = cp by omega, ← clc_set1 _ HX.out]
        exact own_more (own_set HO.out (k * 3 + 1) _).1 hb1.size
      · exact hb13.setCell (by have := hb1.size; exact Nat.le_trans this hbg) _
  · have e4 : commitM L id pos = ([], (knownM L id pos).2) := by unfold commitM; rw [if_neg hk]
    obtain ⟨ee, hee⟩ : ∃ ee, ee = (knownM L id pos).2 := ⟨_, rfl⟩
    rw [← hee] at hk e4 ⊢
    have E4 := Lib.hid e4
    clear hee e4
    have hk2 : (ee != 0) = true := by simp [hk]
    go_wp2_with fail
    refine bodyPost_ret (v := .tuple #[.slice none 0 0, .int .i64 ee]) (by simp [results, Try.results24, go_sem]) rfl ?_
    rw [E4.out]
    exact one_none _ rfl hb1

set_option maxHeartbeats 1000000 in
theorem turn_any (A : Option Addr) (n c : Nat) (L : List Cl) (id : Int) (off : Bool) (w : World) (h : ClAt w A n c L) :
    Calls Try.prog 25 #[.slice A n c, .int .i64 id, .bool off] w fun e w' => OneRes w (turnM L id off) e w' := by
  have hlen := cl_length h
  go_enter Try.func25, Try.ntmps25
  go_wp2_with fail
  refine (cknown_any _ _ _ L _ _ _ h).mono ?_
  rintro e w1 ⟨rfl, hb1⟩
  by_cases hk : (knownM L id 0).2 = 0
  · obtain ⟨hr, hm, hi, hp⟩ := knownM_ok hk
    obtain ⟨cp, cf, hx⟩ := inB_is hi
    have e4 : turnM L id off = (setO L (placeN id L) off, 0) := by unfold turnM; rw [if_pos hk, hp]
    have e5 : setO L (placeN id L) off = L.set (placeN id L) (id, cp, off) := by unfold setO; rw [hx]
    rw [hp, hk]
    rw [e5] at e4
    have E4 := Lib.hid e4
    have hn : n ≤ 4 := by have := rightB_len hr; omega
    have hin : placeN id L < n := by have := (List.getElem?_eq_some_iff.1 hx).1; omega
    have HX := Lib.hid hx
    clear hk hp hx hr hm hi hlen e4 e5
    obtain ⟨k, hkk⟩ : ∃ k, k = placeN id L := ⟨_, rfl⟩
    rw [← hkk] at HX hin E4 ⊢
    clear hkk
    go_wp2_with fail
    refine (clone_any A n c (clc L) _ (h.next hb1) (clc_oneCell L) (by omega)).mono ?_
    rintro e w3 ⟨A3, c3, rfl, hown3, hb3⟩
    have hb13 := hb1.trans (hb3.mono hb1.size)
    obtain ⟨g, rfl, hbg, hgl, hc, hf⟩ := own_at hown3 (clc_get HX.out).2.2
    have b0 : (0 : Int) ≤ (k : Int) := by omega
    have bk : (k : Int) < (n : Int) := by omega
    have HO := Lib.hid hown3
    clear hown3
    go_wp2_with fail
    refine bodyPost_ret (v := .tuple #[.slice (some ⟨g, 0, none⟩) n c3, .int .i64 0]) (by simp [results, Try.results25, go_sem]) rfl ?_
    rw [E4.out]
    refine ⟨_, _, _, rfl, ?_, ?_⟩
    · rw [← clc_set2 _ HX.out]
      exact own_more (own_set HO.out (k * 3 + 2) _).1 hb1.size
    · exact hb13.setCell (by have := hb1.size; exact Nat.le_trans this hbg) _
  · have e4 : turnM L id off = ([], (knownM L id 0).2) := by unfold turnM; rw [if_neg hk]
    obtain ⟨ee, hee⟩ : ∃ ee, ee = (knownM L id 0).2 := ⟨_, rfl⟩
    rw [← hee] at hk e4 ⊢
    have E4 := Lib.hid e4
    clear hee e4
    have hk2 : (ee != 0) = true := by simp [hk]
    go_wp2_with fail
    refine bodyPost_ret (v := .tuple #[.slice none 0 0, .int .i64 ee]) (by simp [results, Try.results25, go_sem]) rfl ?_
    rw [E4.out]
    exact one_none _ rfl hb1
end Go.Proofs.Ytongakhcmdkeiaa
