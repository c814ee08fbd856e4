/- The document's Var and GetVar, bit, kind: the walks. Conditions: those that each theorem states. -/
import Derived.Test.YtongakhcmdkeiaaClU
namespace Go.Proofs.Ytongakhcmdkeiaa
open Go.RowKit

set_option maxRecDepth 20000 in
set_option maxHeartbeats 2000000 in
theorem rvar_any (A : Option Addr) (m c n : Nat) (l : List Int) (w : World) (h : Reads w w.heap.size 1 A m c (cells .u8 l)) (hm : m ≤ 1000) (hn : n < 2 ^ 63) :
    Calls Try.prog 31 #[.slice A m c, .int .i64 (n : Nat)] w fun e w' => ∃ A' c' q, e = .returned (.slice A' q c') ∧ w'.ownsRow w.heap.size 5 1 (.slice A' q c') q (cells .u8 (l ++ vl n)) ∧ Below w.heap.size w w' := by
  obtain ⟨i0, hi0, hz0, hz1, hz2⟩ := info_parts info5
  have hlen := h.length
  have hpw : n < 128 ^ (8 + 1) := by
    have : (128 : Nat) ^ 9 = 2 ^ 63 := by decide
    omega
  have hn0 : ¬ ((n : Int) < 0) := by omega
  have HP := Lib.hid hpw
  have HNN := Lib.hid hn
  have H := Lib.hid h
  clear hpw hn h
  go_enter Try.func31, Try.ntmps31
  go_wp2_with (at_builtin; go_loud (refine wpList_append_reads _ rfl (.tmp 6) (.tmp 7) 30 rfl w.heap.size 5 i0 _ 1 1 Try.underlying30 hi0 hz0 hz1 hz2 rfl (by decide) (.slice (some ⟨w.heap.size, 0, none⟩) 0 0) 0 [] rfl (World.ownsRow_made w #[] 0 (Nat.le_refl _) (Nat.zero_le _) (by simp)) w.heap.size A m c (cells .u8 l) rfl (H.out.alloc (Nat.le_refl _) _) (cells_oneCell _ _) (by simp only [maxLen]; omega) (by omega) (by simp) ?_; intro A1 c1 w1 hown1 _ hb1 _; rw [Nat.zero_add, List.nil_append] at hown1; have hbw := Below.trans (B := w.heap.size) (a := w) ((Below.refl _ _).alloc (Nat.le_refl _) _) hb1; rw [Nat.zero_add]))
  have hvl : (vl n).length ≤ 9 := varF_len 8 n
  have HV := Lib.hid hvl
  have HL := Lib.hid hlen
  clear hvl hlen hb1
  go_loopg [1, 5] 8 (fun gk uo s wr => ∃ (u q : Nat) (A' : Option Addr) (c' : Nat) (out : List Int), uo = .int .i64 (u : Nat) ∧ s = .slice A' q c' ∧ wr.ownsRow w.heap.size 5 1 (.slice A' q c') q (cells .u8 out) ∧ Below w.heap.size w wr ∧ Hid (u < 128 ^ (gk + 1)) ∧ Hid (u < 2 ^ 63) ∧ Hid (l ++ vl n = out ++ varF gk u))
  case atStart => exact ⟨n, m, A1, c1, l, rfl, rfl, hown1, hbw, HP, HNN, Lib.hid rfl⟩
  case round =>
    obtain ⟨u, q, A', c', out, rfl, rfl, hown, hb, HU, HU63, HE⟩ := hrel
    have hq : q ≤ 1009 := by
      have e := congrArg List.length HE.out
      rw [List.length_append, List.length_append, own_length hown] at e
      have := HV.out
      have := HL.out
      omega
    clear hown1 hbw
    by_cases hge : 128 ≤ u
    · obtain ⟨g, hg, hv, hlt⟩ := varF_big hge HU.out
      obtain ⟨y, hy⟩ : ∃ y : Nat, y = u % 128 := ⟨_, rfl⟩
      obtain ⟨z, hz⟩ : ∃ z : Nat, z = u % 128 + 128 := ⟨_, rfl⟩
      obtain ⟨x, hx⟩ : ∃ x : Nat, x = u / 128 := ⟨_, rfl⟩
      have e0 : bits .and .i64 (u : Int) 127 = (y : Int) := by rw [i64_mask 7 (by decide) (u : Int) 127 (by decide), hy]; rfl
      have e2 : bits .or .i64 (y : Int) 128 = (z : Int) := by rw [i64_or128 (by omega), hy, hz]
      have e1 : IntKind.u8.wrap (z : Int) = (z : Int) := by rw [IntKind.wrap_u8]; omega
      have e3 : (u : Int) / 128 = (x : Int) := by omega
      have hx63 : x < 2 ^ 63 := by have := HU63.out; omega
      have hgt : (127 : Int) < (u : Int) := by omega
      rw [← hz, ← hx] at hv
      rw [← hx] at hlt
      have HV2 := Lib.hid hv
      have HLT := Lib.hid hlt
      have HG := Lib.hid hg
      have HX63 := Lib.hid hx63
      clear hv hlt hy hz hg hx hx63
      go_wp2_with (at_builtin; go_loud (refine wpList_append_new wr #[.int .u8 z] 5 rfl (.tmp 13) (.tmp 18) 30 rfl w.heap.size 5 i0 _ 1 1 Try.underlying30 hi0 hz0 hz1 hz2 rfl (by decide) (.slice A' q c') q _ rfl hown 1 rfl rfl (by intro u hu; simp at hu; subst hu; rfl) (by simp only [maxLen]; omega) (by omega) hb.size ?_; intro A3 c3 w3 r1 r2 r3 r4))
      go_roundg g
      case measure => have := HG.out; omega
      case rel =>
        refine ⟨x, q + 1, A3, c3, out ++ [(z : Int)], rfl, rfl, ?_, hb.trans r3, HLT, HX63, Lib.hid ?_⟩
        · rw [cells_append]; exact r1
        · rw [HE.out, HV2.out, List.append_assoc]; rfl
    · have hu : u < 128 := by omega
      have e1 : IntKind.u8.wrap (u : Int) = (u : Int) := by rw [IntKind.wrap_u8]; omega
      have hv : varF gk u = [(u : Int)] := varF_small hu
      have HV2 := Lib.hid hv
      have hge2 : ¬ (127 : Int) < (u : Int) := by omega
      clear hv
      go_wp2_with (at_builtin; go_loud (refine wpList_append_new wr #[.int .u8 u] 5 rfl (.tmp 22) (.tmp 25) 30 rfl w.heap.size 5 i0 _ 1 1 Try.underlying30 hi0 hz0 hz1 hz2 rfl (by decide) (.slice A' q c') q _ rfl hown 1 rfl rfl (by intro u hu; simp at hu; subst hu; rfl) (by simp only [maxLen]; omega) (by omega) hb.size ?_; intro A3 c3 w3 r1 r2 r3 r4))
      go_ret
      refine ⟨A3, c3, q + 1, rfl, ?_, hb.trans r3⟩
      rw [HE.out, HV2.out, cells_append]
      exact r1

theorem bit_any (f : Bool) (w : World) : Calls Try.prog 32 #[.bool f] w fun e w' => e = .returned (.int .i64 (bitN f : Nat)) ∧ w = w' := by
  cases f
  all_goals
    go_enter Try.func32, Try.ntmps32
    go_wp2_with fail
    go_ret
    exact ⟨rfl, rfl⟩
def kindM (a : Int) : Int := if a < 0 ∨ 3 < a then 3 else a
theorem kind_any (a i p : Int) (f : Bool) (w : World) : Calls Try.prog 17 #[.agg #[.int .i64 a, .int .i64 i, .int .i64 p, .bool f]] w fun e w' => e = .returned (.int .i64 (kindM a)) ∧ w.alloc (.cells #[.int .i64 a, .int .i64 i, .int .i64 p, .bool f] 29) = w' := by
  by_cases h0 : a < 0
  · have E : Hid (kindM a = 3) := Lib.hid (by unfold kindM; rw [if_pos (.inl h0)])
    go_enter Try.func17, Try.ntmps17
    go_wp2_with fail
    go_ret
    exact ⟨ret_int E.out.symm, rfl⟩
  by_cases h3 : 3 < a
  · have E : Hid (kindM a = 3) := Lib.hid (by unfold kindM; rw [if_pos (.inr h3)])
    go_enter Try.func17, Try.ntmps17
    go_wp2_with fail
    go_ret
    exact ⟨ret_int E.out.symm, rfl⟩
  · have E : Hid (kindM a = a) := Lib.hid (by unfold kindM; rw [if_neg (by omega)])
    go_enter Try.func17, Try.ntmps17
    go_wp2_with fail
    go_ret
    exact ⟨ret_int E.out.symm, rfl⟩
theorem one_kind (L : List Cl) (a id pos : Int) (off : Bool) : oneM L (kindM a) id pos off = oneM L a id pos off := by
  unfold kindM
  split
  · rename_i h
    unfold oneM
    rw [if_neg (by omega), if_neg (by omega), if_neg (by omega), if_neg (by omega), if_neg (by omega), if_neg (by omega)]
  · rfl
end Go.Proofs.Ytongakhcmdkeiaa
