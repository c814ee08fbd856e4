/- The document's numbers: the walk. Printed by gen_rget.py. Conditions: those that each theorem states. -/
import Derived.Test.YtongakhcmdkeiaaClAc
import Derived.LoopN
namespace Go.Proofs.Ytongakhcmdkeiaa
open Go.RowKit
theorem info3 : (Try.prog.info? 3).map (fun i => (i.zero, i.size, i.bytes)) = some (some (.int .i64 0), 1, 8) := by kernel_rfl

def num3 (l : List Int) (a : Nat) : Option (Nat × Nat × Nat × Nat) := match gvR l a with
  | none => none
  | some (i, a1) => match gvR l a1 with
    | none => none
    | some (p, a2) => match gvR l a2 with
      | none => none
      | some (f, a3) => some (i, p, f, a3)
def NumRes (w : World) (R : Option (Nat × Nat × Nat × Nat)) (e : Ending) (w' : World) : Prop :=
  match R with
  | some (i, p, f, a3) => ∃ A' c', e = .returned (.tuple #[.slice A' 3 c', .int .i64 (a3 : Nat), .bool true]) ∧ w'.ownsRow w.heap.size 3 1 (.slice A' 3 c') 3 (cells .i64 [(i : Int), (p : Int), (f : Int)]) ∧ Below w.heap.size w w'
  | none => e = .returned (.tuple #[.slice none 0 0, .int .i64 0, .bool false]) ∧ Below w.heap.size w w'

set_option maxRecDepth 20000 in
set_option maxHeartbeats 2000000 in
theorem num_any (A : Option Addr) (n c a : Nat) (l : List Int) (w : World) (h : Reads w w.heap.size 1 A n c (cells .u8 l)) (hby : ∀ x ∈ l, 0 ≤ x ∧ x < 256) (hn : n ≤ 10000) (ha : a ≤ l.length) :
    Calls Try.prog 34 #[.slice A n c, .int .i64 (a : Nat), .int .i64 3] w fun e w' => NumRes w (num3 l a) e w' := by
  obtain ⟨i0, hi0, hz0, hz1, hz2⟩ := info_parts info3
  have hlen := h.length
  have HL := Lib.hid hlen
  have HBY := Lib.hid hby
  have H := Lib.hid h
  have HA := Lib.hid ha
  clear hlen hby h ha
  go_enter Try.func34, Try.ntmps34
  go_wp2_with fail
  refine wp_loop_rounds 4 ?_
  rw [rounds_succ]
  go_wp2_with fail
  refine (rgetvar_any A n c a l _ H.out HBY.out (by omega) (by have := HA.out; have := HL.out; omega)).mono ?_
  rintro e w1 ⟨rfl, rfl⟩
  cases hg1 : gvR l a with
  | none =>
    have E : Hid (num3 l a = none) := Lib.hid (by simp [num3, hg1])
    rw [gvN]
    clear hg1
    go_wp2_with fail
    refine bodyPost_ret (v := .tuple #[.slice none 0 0, .int .i64 0, .bool false]) (by simp [results, Try.results34, go_sem]) rfl ?_
    rw [E.out]
    exact ⟨rfl, Below.refl _ _⟩
  | some x1 =>
    obtain ⟨v1, a1⟩ := x1
    rw [gvS]
    obtain ⟨hv1, ha1⟩ := gvR_le hg1 HA.out
    have HG1 := Lib.hid hg1
    have HA1 := Lib.hid ha1
    clear hg1 hv1 ha1
    go_wp2_with (at_builtin; go_loud (refine wpList_append_new w #[.int .i64 v1] 3 rfl (.tmp 28) (.tmp 30) 47 rfl w.heap.size 3 i0 _ 1 8 Try.underlying47 hi0 hz0 hz1 hz2 rfl (by decide) (.slice none 0 0) 0 [] rfl (World.ownsRow_nil _ _ _ _) 1 rfl rfl (by intro u hu; simp at hu; subst hu; rfl) (by simp [maxLen]) (by omega) (Nat.le_refl _) ?_; intro B1 c1 w1 o1 _ hb1 _; rw [Nat.zero_add, List.nil_append] at o1; rw [Nat.zero_add]))
    rw [rounds_succ]
    go_wp2_with fail
    refine (rgetvar_any A n c a1 l _ (H.out.next hb1) HBY.out (by omega) (by have := HA1.out; have := HL.out; omega)).mono ?_
    rintro e w2 ⟨rfl, rfl⟩
    cases hg2 : gvR l a1 with
    | none =>
      have E : Hid (num3 l a = none) := Lib.hid (by simp [num3, HG1.out, hg2])
      rw [gvN]
      clear hg2
      go_wp2_with fail
      refine bodyPost_ret (v := .tuple #[.slice none 0 0, .int .i64 0, .bool false]) (by simp [results, Try.results34, go_sem]) rfl ?_
      rw [E.out]
      exact ⟨rfl, hb1⟩
    | some x2 =>
      obtain ⟨v2, a2⟩ := x2
      rw [gvS]
      obtain ⟨hv2, ha2⟩ := gvR_le hg2 HA1.out
      have HG2 := Lib.hid hg2
      have HA2 := Lib.hid ha2
      clear hg2 hv2 ha2
      go_wp2_with (at_builtin; go_loud (refine wpList_append_new w1 #[.int .i64 v2] 3 rfl (.tmp 28) (.tmp 30) 47 rfl w.heap.size 3 i0 _ 1 8 Try.underlying47 hi0 hz0 hz1 hz2 rfl (by decide) (.slice B1 1 c1) 1 _ rfl o1 1 rfl rfl (by intro u hu; simp at hu; subst hu; rfl) (by simp [maxLen]) (by omega) hb1.size ?_; intro B2 c2 w2 o2 _ hb2 _))
      rw [rounds_succ]
      go_wp2_with fail
      refine (rgetvar_any A n c a2 l _ (H.out.next (hb1.trans hb2)) HBY.out (by omega) (by have := HA2.out; have := HL.out; omega)).mono ?_
      rintro e w3 ⟨rfl, rfl⟩
      cases hg3 : gvR l a2 with
      | none =>
        have E : Hid (num3 l a = none) := Lib.hid (by simp [num3, HG1.out, HG2.out, hg3])
        rw [gvN]
        clear hg3
        go_wp2_with fail
        refine bodyPost_ret (v := .tuple #[.slice none 0 0, .int .i64 0, .bool false]) (by simp [results, Try.results34, go_sem]) rfl ?_
        rw [E.out]
        exact ⟨rfl, hb1.trans hb2⟩
      | some x3 =>
        obtain ⟨v3, a3⟩ := x3
        rw [gvS]
        have E : Hid (num3 l a = some (v1, v2, v3, a3)) := Lib.hid (by simp [num3, HG1.out, HG2.out, hg3])
        clear hg3
        go_wp2_with (at_builtin; go_loud (refine wpList_append_new w2 #[.int .i64 v3] 3 rfl (.tmp 28) (.tmp 30) 47 rfl w.heap.size 3 i0 _ 1 8 Try.underlying47 hi0 hz0 hz1 hz2 rfl (by decide) (.slice B2 2 c2) 2 _ rfl o2 1 rfl rfl (by intro u hu; simp at hu; subst hu; rfl) (by simp [maxLen]) (by omega) (by have := hb1.size; have := hb2.size; omega) ?_; intro B3 c3 w3 o3 _ hb3 _))
        rw [rounds_succ]
        go_wp2_with fail
        refine bodyPost_ret (v := .tuple #[.slice B3 3 c3, .int .i64 (a3 : Nat), .bool true]) (by simp [results, Try.results34, go_sem]) rfl ?_
        rw [E.out]
        exact ⟨B3, c3, rfl, o3, (hb1.trans hb2).trans hb3⟩
end Go.Proofs.Ytongakhcmdkeiaa

