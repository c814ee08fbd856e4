/- Clone of bytes, Var: the walks. Conditions: those that each theorem states. -/
import Derived.Test.YtongakhcmdkeiaaClK
import Derived.Test.YtongakhcmdkeiaaClR
namespace Go.Proofs.Ytongakhcmdkeiaa
open Go.RowKit
theorem info5 : (Try.prog.info? 5).map (fun i => (i.zero, i.size, i.bytes)) = some (some (.int .u8 0), 1, 1) := by kernel_rfl

theorem bclone_any (A : Option Addr) (n c : Nat) (l : List Int) (w : World) (h : Reads w w.heap.size 1 A n c (cells .u8 l)) (hn : n ≤ 1000000) :
    Calls Try.prog 40 #[.slice A n c] w fun e w' => ∃ A' c', e = .returned (.slice A' n c') ∧ w'.ownsRow w.heap.size 5 1 (.slice A' n c') n (cells .u8 l) ∧ Below w.heap.size w w' := by
  obtain ⟨i0, hi0, hz0, hz1, hz2⟩ := info_parts info5
  have hnil := fun (w : World) (A : Option Addr) (n c : Nat) => Lib.run_eql_slice_nil (P := Try.prog) w 30 5 A n c 0 0 Try.underlying30
  rcases A with _ | ad
  · obtain rfl : c = 0 := h.2.2.2.1 rfl
    obtain rfl : n = 0 := by have := h.le; omega
    have hl : l = [] := List.eq_nil_of_length_eq_zero h.length
    subst hl
    go_enter Try.func40, Try.ntmps40
    go_wp2_with fail
    go_ret
    exact ⟨none, 0, rfl, World.ownsRow_nil _ _ _ _, Below.refl _ _⟩
  · go_enter Try.func40, Try.ntmps40
    go_wp2_with (at_builtin; go_loud (refine wpList_append_reads _ rfl (.tmp 5) (.tmp 6) 30 rfl w.heap.size 5 i0 _ 1 1 Try.underlying30 hi0 hz0 hz1 hz2 rfl (by decide) (.slice (some ⟨w.heap.size, 0, none⟩) 0 0) 0 [] rfl (World.ownsRow_made w #[] 0 (Nat.le_refl _) (Nat.zero_le _) (by simp)) w.heap.size _ n c (cells .u8 l) rfl (h.alloc (Nat.le_refl _) _) (cells_oneCell _ _) (by simp only [maxLen]; omega) (by omega) (by simp) ?_; intro A' c' w1 h2 _ h4 _))
    rw [Nat.zero_add, List.nil_append] at h2
    go_wp2_with fail
    go_ret
    exact ⟨A', c', rfl, h2, Below.trans (B := w.heap.size) (a := w) ((Below.refl _ _).alloc (Nat.le_refl _) _) h4⟩

theorem varF_small {f u : Nat} (h : u < 128) : varF f u = [(u : Int)] := by
  cases f with
  | zero => rfl
  | succ f => simp only [varF, if_pos h]
theorem varF_big {f u : Nat} (h : 128 ≤ u) (hf : u < 128 ^ (f + 1)) : ∃ g, f = g + 1 ∧ varF f u = ((u % 128 + 128 : Nat) : Int) :: varF g (u / 128) ∧ u / 128 < 128 ^ (g + 1) := by
  cases f with
  | zero => simp at hf; omega
  | succ g =>
    refine ⟨g, rfl, ?_, by rw [Nat.pow_succ] at hf; omega⟩
    simp only [varF]
    rw [if_neg (by omega)]

set_option maxRecDepth 20000 in
set_option maxHeartbeats 2000000 in
theorem var_any (A : Option Addr) (m c n : Nat) (l : List Int) (w : World) (h : Reads w w.heap.size 1 A m c (cells .u8 l)) (hm : m ≤ 1000) (hn : n < 2 ^ 63) :
    Calls Try.prog 27 #[.slice A m c, .int .i64 (n : Nat)] w fun e w' => ∃ A' c' q, e = .returned (.slice A' q c') ∧ w'.ownsRow w.heap.size 5 1 (.slice A' q c') q (cells .u8 (l ++ vl n)) ∧ Below w.heap.size w w' := by
  obtain ⟨i0, hi0, hz0, hz1, hz2⟩ := info_parts info5
  have hlen := h.length
  have hpw : n < 128 ^ (8 + 1) := by
    have : (128 : Nat) ^ 9 = 2 ^ 63 := by decide
    omega
  have hn0 : ¬ ((n : Int) < 0) := by omega
  have hw0 : IntKind.u64.wrap (n : Int) = (n : Int) := by rw [IntKind.wrap_u64]; omega
  have HP := Lib.hid hpw
  have HNN := Lib.hid hn
  clear hpw hn
  go_enter Try.func27, Try.ntmps27
  go_wp2_with fail
  refine (bclone_any A m c l _ h (by omega)).mono ?_
  rintro e w1 ⟨A1, c1, rfl, hown1, hb1⟩
  go_wp2_with fail
  have hvl : (vl n).length ≤ 9 := varF_len 8 n
  have HV := Lib.hid hvl
  have HL := Lib.hid hlen
  clear hvl hlen
  go_loopg [5, 6] 8 (fun gk s uo wr => ∃ (u q : Nat) (A' : Option Addr) (c' : Nat) (out : List Int), uo = .int .u64 (u : Nat) ∧ s = .slice A' q c' ∧ wr.ownsRow w.heap.size 5 1 (.slice A' q c') q (cells .u8 out) ∧ Below w.heap.size w wr ∧ Hid (u < 128 ^ (gk + 1)) ∧ Hid (l ++ vl n = out ++ varF gk u))
  case atStart => exact ⟨n, m, A1, c1, l, rfl, rfl, hown1, hb1, HP, Lib.hid rfl⟩
  case round =>
    obtain ⟨u, q, A', c', out, rfl, rfl, hown, hb, HU, HE⟩ := hrel
    have hq : q ≤ 1009 := by
      have e := congrArg List.length HE.out
      rw [List.length_append, List.length_append, own_length hown] at e
      have := HV.out
      have := HL.out
      omega
    clear hown1 hb1 h
    by_cases hge : 128 ≤ u
    · obtain ⟨g, hg, hv, hlt⟩ := varF_big hge HU.out
      obtain ⟨y, hy⟩ : ∃ y : Nat, y = u % 256 := ⟨_, rfl⟩
      obtain ⟨z, hz⟩ : ∃ z : Nat, z = u % 128 + 128 := ⟨_, rfl⟩
      obtain ⟨x, hx⟩ : ∃ x : Nat, x = u / 128 := ⟨_, rfl⟩
      have e1 : IntKind.u8.wrap (u : Int) = (y : Int) := by rw [IntKind.wrap_u8, hy]; omega
      have e2 : bits .or .u8 (y : Int) 128 = (z : Int) := by rw [u8_or128 (by omega), hy, hz]; congr 1; omega
      have e3 : (u : Int) / 128 = (x : Int) := by omega
      rw [← hz, ← hx] at hv
      rw [← hx] at hlt
      have HV2 := Lib.hid hv
      have HLT := Lib.hid hlt
      have HG := Lib.hid hg
      clear hv hlt hy hz hg hx
      go_wp2_with (at_builtin; go_loud (refine wpList_append_new wr #[.int .u8 z] 5 rfl (.tmp 14) (.tmp 18) 30 rfl w.heap.size 5 i0 _ 1 1 Try.underlying30 hi0 hz0 hz1 hz2 rfl (by decide) (.slice A' q c') q _ rfl hown 1 rfl rfl (by intro u hu; simp at hu; subst hu; rfl) (by simp only [maxLen]; omega) (by omega) hb.size ?_; intro A3 c3 w3 r1 r2 r3 r4))
      go_roundg g
      case measure => have := HG.out; omega
      case rel =>
        refine ⟨x, q + 1, A3, c3, out ++ [(z : Int)], rfl, rfl, ?_, hb.trans r3, HLT, Lib.hid ?_⟩
        · rw [cells_append]; exact r1
        · rw [HE.out, HV2.out, List.append_assoc]; rfl
    · have hu : u < 128 := by omega
      have e1 : IntKind.u8.wrap (u : Int) = (u : Int) := by rw [IntKind.wrap_u8]; omega
      have hv : varF gk u = [(u : Int)] := varF_small hu
      have HV2 := Lib.hid hv
      have hge2 : ¬ (128 : Int) ≤ (u : Int) := by omega
      clear hv
      go_wp2_with (at_builtin; go_loud (refine wpList_append_new wr #[.int .u8 u] 5 rfl (.tmp 22) (.tmp 25) 30 rfl w.heap.size 5 i0 _ 1 1 Try.underlying30 hi0 hz0 hz1 hz2 rfl (by decide) (.slice A' q c') q _ rfl hown 1 rfl rfl (by intro u hu; simp at hu; subst hu; rfl) (by simp only [maxLen]; omega) (by omega) hb.size ?_; intro A3 c3 w3 r1 r2 r3 r4))
      go_ret
      refine ⟨A3, c3, q + 1, rfl, ?_, hb.trans r3⟩
      rw [HE.out, HV2.out, cells_append]
      exact r1
end Go.Proofs.Ytongakhcmdkeiaa
