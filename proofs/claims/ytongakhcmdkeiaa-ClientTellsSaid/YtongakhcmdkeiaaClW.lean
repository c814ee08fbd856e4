/- parse: the walk. Conditions: those that each theorem states. -/
import Derived.Test.YtongakhcmdkeiaaClT
import Derived.LoopN
namespace Go.Proofs.Ytongakhcmdkeiaa
open Go.RowKit

def parseN : Nat → Nat → List Int → Option (List Cl)
  | 0, _, _ => some []
  | m + 1, at_, l => match gvR l at_ with
    | none => none
    | some (i, a1) => match gvR l a1 with
      | none => none
      | some (p, a2) => match gvR l a2 with
        | none => none
        | some (f, a3) => (parseN m a3 l).map ((((i : Nat) : Int), ((p : Nat) : Int), ((f : Nat) : Int) == 1) :: ·)
def parseM (l : List Int) : Option (List Cl) := match gvR l 0 with
  | none => none
  | some (n, at_) => if 4 < n then none else parseN n at_ l
theorem gvR_le {l : List Int} {a v b : Nat} (h : gvR l a = some (v, b)) (ha : a ≤ l.length) : v < 2 ^ 63 ∧ b ≤ l.length := by
  unfold gvR at h
  cases e : getS 9 0 0 (l.drop a) with
  | none => rw [e] at h; cases h
  | some x =>
    obtain ⟨v', k⟩ := x
    rw [e] at h
    simp only [Option.map_some, Option.some.injEq, Prod.mk.injEq] at h
    obtain ⟨rfl, rfl⟩ := h
    obtain ⟨h1, h2, _⟩ := getS_lt 9 0 0 (l.drop a) (by decide) e
    refine ⟨by simpa using h1, ?_⟩
    rw [List.length_drop] at h2
    omega
theorem gvS (v b : Nat) : gvV (some (v, b)) = #[.int .i64 (v : Nat), .int .i64 (b : Nat), .bool true] := rfl
theorem gvN : gvV none = #[.int .i64 0, .int .i64 0, .bool false] := rfl
theorem iya (a b c : Value) : ∀ w, (Instr.index 75 (.agg #[a, b, c]) (.int .i64 0)).run Try.prog w = .ok a w := fun _ => by kernel_rfl
theorem iyb (a b c : Value) : ∀ w, (Instr.index 75 (.agg #[a, b, c]) (.int .i64 1)).run Try.prog w = .ok b w := fun _ => by kernel_rfl
theorem iyc (a b c : Value) : ∀ w, (Instr.index 75 (.agg #[a, b, c]) (.int .i64 2)).run Try.prog w = .ok c w := fun _ => by kernel_rfl
/-- What parse gives back. -/
def ParseRes (w : World) (R : Option (List Cl)) (e : Ending) (w' : World) : Prop :=
  match R with
  | some L => ∃ A' n' c', e = .returned (.tuple #[.slice A' n' c', .bool true]) ∧ w'.ownsRow w.heap.size 42 3 (.slice A' n' c') n' (clc L) ∧ Below w.heap.size w w'
  | none => e = .returned (.tuple #[.slice none 0 0, .bool false]) ∧ Below w.heap.size w w'

set_option maxRecDepth 20000 in
set_option maxHeartbeats 4000000 in
theorem parse_any (A : Option Addr) (n c : Nat) (l : List Int) (w : World) (h : Reads w w.heap.size 1 A n c (cells .u8 l)) (hby : ∀ x ∈ l, 0 ≤ x ∧ x < 256) (hn : n ≤ 10000) :
    Calls Try.prog 28 #[.slice A n c] w fun e w' => ParseRes w (parseM l) e w' := by
  obtain ⟨i0, hi0, hz0, hz1, hz2⟩ := info_parts info42
  have hlen := h.length
  have HL := Lib.hid hlen
  have HBY := Lib.hid hby
  have H := Lib.hid h
  clear hlen hby h
  go_enter Try.func28, Try.ntmps28
  go_wp2_with fail
  refine (getvar_any A n c 0 l w H.out HBY.out (by omega) (by omega)).mono ?_
  rintro e w1 ⟨rfl, rfl⟩
  cases hg : gvR l 0 with
  | none =>
    have E : Hid (parseM l = none) := Lib.hid (by unfold parseM; rw [hg])
    rw [gvN]
    clear hg
    go_wp2_with fail
    refine bodyPost_ret (v := .tuple #[.slice none 0 0, .bool false]) (by simp [results, Try.results28, go_sem]) rfl ?_
    rw [E.out]
    exact ⟨rfl, Below.refl _ _⟩
  | some x =>
    obtain ⟨v, a0⟩ := x
    rw [gvS]
    obtain ⟨hv63, ha0⟩ := gvR_le hg (Nat.zero_le _)
    by_cases h4 : 4 < v
    · have E : Hid (parseM l = none) := Lib.hid (by unfold parseM; rw [hg]; simp [h4])
      have d4 : (4 : Int) < (v : Int) := by omega
      clear hg h4
      go_wp2_with fail
      refine bodyPost_ret (v := .tuple #[.slice none 0 0, .bool false]) (by simp [results, Try.results28, go_sem]) rfl ?_
      rw [E.out]
      exact ⟨rfl, Below.refl _ _⟩
    have E : Hid (parseM l = parseN v a0 l) := Lib.hid (by unfold parseM; rw [hg]; simp [h4])
    have d4 : ¬ (4 : Int) < (v : Int) := by omega
    have hv4 : v ≤ 4 := by omega
    have HA0 := Lib.hid ha0
    clear hg h4 hv63 ha0
    go_wp2_with fail
    go_loopg [5, 6, 7, 8, 9, 11, 25, 30] v (fun gk ao _ lo _ _ _ i _ wr => ∃ (k a c' : Nat) (A' : Option Addr) (acc : List Cl), k + gk = v ∧ i = .int .i64 (k : Nat) ∧ ao = .int .i64 (a : Nat) ∧ lo = .slice A' k c' ∧ wr.ownsRow w.heap.size 42 3 (.slice A' k c') k (clc acc) ∧ Below w.heap.size w wr ∧ Hid (a ≤ l.length) ∧ Hid (parseN v a0 l = (parseN gk a l).map (acc ++ ·)))
    case atStart => exact ⟨0, a0, 0, none, [], by omega, rfl, rfl, rfl, World.ownsRow_nil _ _ _ _, Below.refl _ _, HA0, Lib.hid (by simp)⟩
    case round =>
      obtain ⟨k, a, c', A', acc, hk, rfl, rfl, rfl, hown, hb, HA, HE⟩ := hrel
      by_cases hlt : k < v
      · obtain ⟨g, hg⟩ : ∃ g, gk = g + 1 := ⟨gk - 1, by omega⟩
        have HG := Lib.hid hg
        have HK := Lib.hid hk
        clear hg hk
        have hsz := hb.size
        have IA := iya (.pointer (some ⟨wr.heap.size, 0, none⟩)) (.pointer (some ⟨wr.heap.size, 1, none⟩)) (.pointer (some ⟨wr.heap.size + 1, 0, none⟩))
        have IB := iyb (.pointer (some ⟨wr.heap.size, 0, none⟩)) (.pointer (some ⟨wr.heap.size, 1, none⟩)) (.pointer (some ⟨wr.heap.size + 1, 0, none⟩))
        have IC := iyc (.pointer (some ⟨wr.heap.size, 0, none⟩)) (.pointer (some ⟨wr.heap.size, 1, none⟩)) (.pointer (some ⟨wr.heap.size + 1, 0, none⟩))
        go_wp2_with fail
        refine wp_loop_rounds 4 ?_
        rw [rounds_succ]
        go_wp2_with fail
        refine (getvar_any A n c a l _ (Reads.next H.out (by repeat (first | with_reducible exact hb | with_reducible exact Below.refl _ _ | with_reducible refine Below.setCell ?_ (by first | omega | (simp <;> omega)) _ | with_reducible refine Below.alloc ?_ (by first | omega | (simp <;> omega)) _))) HBY.out (by omega) (by have := HA.out; have := HL.out; omega)).mono ?_
        rintro e w2 ⟨rfl, rfl⟩
        cases hg1 : gvR l a with
        | none =>
          have E2 : Hid (parseM l = none) := Lib.hid (by rw [E.out, HE.out, HG.out]; simp [parseN, hg1])
          rw [gvN]
          clear hg1
          clear HE
          go_wp2_with fail
          refine bodyPost_ret (v := .tuple #[.slice none 0 0, .bool false]) (by simp [results, Try.results28, go_sem]) rfl ?_
          rw [E2.out]
          exact ⟨rfl, (by repeat (first | with_reducible exact hb | with_reducible exact Below.refl _ _ | with_reducible refine Below.setCell ?_ (by first | omega | (simp <;> omega)) _ | with_reducible refine Below.alloc ?_ (by first | omega | (simp <;> omega)) _))⟩
        | some x1 =>
          obtain ⟨v1, a1⟩ := x1
          rw [gvS]
          obtain ⟨hv1, ha1⟩ := gvR_le hg1 HA.out
          have HG1 := Lib.hid hg1
          have HV1 := Lib.hid hv1
          have HA1 := Lib.hid ha1
          clear hg1 hv1 ha1
          go_wp2_with fail
          rw [rounds_succ]
          go_wp2_with fail
          refine (getvar_any A n c a1 l _ (Reads.next H.out (by repeat (first | with_reducible exact hb | with_reducible exact Below.refl _ _ | with_reducible refine Below.setCell ?_ (by first | omega | (simp <;> omega)) _ | with_reducible refine Below.alloc ?_ (by first | omega | (simp <;> omega)) _))) HBY.out (by omega) (by have := HA1.out; have := HL.out; omega)).mono ?_
          rintro e w2 ⟨rfl, rfl⟩
          cases hg2 : gvR l a1 with
          | none =>
            have E2 : Hid (parseM l = none) := Lib.hid (by rw [E.out, HE.out, HG.out]; simp [parseN, HG1.out, hg2])
            rw [gvN]
            clear hg2
            clear HE
            go_wp2_with fail
            refine bodyPost_ret (v := .tuple #[.slice none 0 0, .bool false]) (by simp [results, Try.results28, go_sem]) rfl ?_
            rw [E2.out]
            exact ⟨rfl, (by repeat (first | with_reducible exact hb | with_reducible exact Below.refl _ _ | with_reducible refine Below.setCell ?_ (by first | omega | (simp <;> omega)) _ | with_reducible refine Below.alloc ?_ (by first | omega | (simp <;> omega)) _))⟩
          | some x2 =>
            obtain ⟨v2, a2⟩ := x2
            rw [gvS]
            obtain ⟨hv2, ha2⟩ := gvR_le hg2 HA1.out
            have HG2 := Lib.hid hg2
            have HV2 := Lib.hid hv2
            have HA2 := Lib.hid ha2
            clear hg2 hv2 ha2
            go_wp2_with fail
            rw [rounds_succ]
            go_wp2_with fail
            refine (getvar_any A n c a2 l _ (Reads.next H.out (by repeat (first | with_reducible exact hb | with_reducible exact Below.refl _ _ | with_reducible refine Below.setCell ?_ (by first | omega | (simp <;> omega)) _ | with_reducible refine Below.alloc ?_ (by first | omega | (simp <;> omega)) _))) HBY.out (by omega) (by have := HA2.out; have := HL.out; omega)).mono ?_
            rintro e w2 ⟨rfl, rfl⟩
            cases hg3 : gvR l a2 with
            | none =>
              have E2 : Hid (parseM l = none) := Lib.hid (by rw [E.out, HE.out, HG.out]; simp [parseN, HG1.out, HG2.out, hg3])
              rw [gvN]
              clear hg3
              clear HE
              go_wp2_with fail
              refine bodyPost_ret (v := .tuple #[.slice none 0 0, .bool false]) (by simp [results, Try.results28, go_sem]) rfl ?_
              rw [E2.out]
              exact ⟨rfl, (by repeat (first | with_reducible exact hb | with_reducible exact Below.refl _ _ | with_reducible refine Below.setCell ?_ (by first | omega | (simp <;> omega)) _ | with_reducible refine Below.alloc ?_ (by first | omega | (simp <;> omega)) _))⟩
            | some x3 =>
              obtain ⟨v3, a3⟩ := x3
              rw [gvS]
              obtain ⟨hv3, ha3⟩ := gvR_le hg3 HA2.out
              have HG3 := Lib.hid hg3
              have HA3 := Lib.hid ha3
              obtain ⟨fb, hfb⟩ : ∃ fb : Bool, ((v3 : Int) == 1) = fb := ⟨_, rfl⟩
              have HFB := Lib.hid hfb
              clear hg3 hv3 ha3
              go_wp2_with fail
              rw [rounds_succ]
              go_wp2_with (at_builtin; go_loud (refine wpList_append_new _ #[.int .i64 v1, .int .i64 v2, .bool fb] 42 rfl (.tmp 48) (.tmp 50) 24 rfl w.heap.size 42 i0 _ 3 24 Try.underlying24 hi0 hz0 hz1 hz2 rfl (by decide) (.slice A' k c') k _ rfl (own_below hown (by repeat (first | with_reducible exact Below.refl _ _ | with_reducible refine Below.setCell ?_ (by first | omega | (simp <;> omega)) _ | with_reducible refine Below.alloc ?_ (by first | omega | (simp <;> omega)) _)) (Nat.le_refl _)) 1 (by first | rfl | simp [Act.eval]) rfl (by intro u hu; simp at hu; rcases hu with rfl | rfl | rfl <;> rfl) (by simp only [maxLen]; omega) (by omega) (by have := hb.size; simp; omega) ?_; intro A3' c3 w3 r1 r2 r3 r4; have r5 := (hb.trans (Below.mono (B := wr.heap.size) (by repeat (first | with_reducible exact Below.refl _ _ | with_reducible refine Below.setCell ?_ (by first | omega | (simp <;> omega)) _ | with_reducible refine Below.alloc ?_ (by first | omega | (simp <;> omega)) _)) hb.size)).trans r3))
              go_roundg g
              case measure => have := HG.out; omega
              case rel =>
                refine ⟨k + 1, a3, c3, A3', acc ++ [((v1 : Int), (v2 : Int), fb)], by have := HK.out; have := HG.out; omega, by go_num, rfl, rfl, ?_, r5, HA3, Lib.hid ?_⟩
                · rw [clc_append]; exact r1
                · rw [HE.out, HG.out]
                  simp only [parseN, HG1.out, HG2.out, HG3.out, HFB.out, Option.map_map]
                  congr 1
                  funext t
                  simp
      · obtain rfl : k = v := by omega
        obtain rfl : gk = 0 := by omega
        have E2 : Hid (parseM l = some acc) := Lib.hid (by rw [E.out, HE.out]; simp [parseN])
        clear HE
        go_wp2_with fail
        refine bodyPost_ret (v := .tuple #[.slice A' k c', .bool true]) (by simp [results, Try.results28, go_sem]) rfl ?_
        rw [E2.out]
        exact ⟨A', k, c', rfl, hown, hb⟩
end Go.Proofs.Ytongakhcmdkeiaa

