/- The law ClientFull: the walk. Conditions: those that each theorem states. -/
import Derived.Test.YtongakhcmdkeiaaClI
import Derived.Test.YtongakhcmdkeiaaClP
namespace Go.Proofs.Ytongakhcmdkeiaa
open Go.RowKit

set_option maxRecDepth 20000 in
set_option maxHeartbeats 2000000 in
theorem full_law (A : Option Addr) (n c : Nat) (l : List Int) (pos : Int) (w : World) (h : Reads w w.heap.size 1 A n c (cells .i64 l)) :
    Calls Try.prog 5 #[.slice A n c, .int .i64 pos] w fun e w' => e = .returned (.bool true) ∧ Below w.heap.size w w' := by
  have hbig := h.big
  by_cases h40 : 40 < n
  · have d1 : decide (40 < n) = true := dec_yes h40
    go_enter Try.func5, Try.ntmps5
    go_wp2_with fail
    refine (known_any _).mono ?_
    rintro e w1 ⟨rfl, hb1⟩
    go_wp2_with fail
    go_ret
    exact ⟨rfl, hb1⟩
  have hn : n ≤ 40 := by omega
  have Hd : bits .and .i64 pos 65535 = pos % 65536 := i64_mask 16 (by decide) pos 65535 (by decide)
  obtain ⟨y0, hy⟩ : ∃ y0 : Int, pos % 65536 = y0 := ⟨_, rfl⟩
  have y9 : 0 ≤ y0 ∧ y0 < 65536 := by omega
  rw [hy] at Hd
  clear hy h40
  go_enter Try.func5, Try.ntmps5
  go_wp2_with fail
  go_loopg [5, 6, 7, 8, 9, 10, 11, 12, 13, 14] n (fun gk a i _ _ _ _ _ _ _ _ wr => ∃ (k m : Nat) (A' : Option Addr) (c' : Nat) (L : List Cl), k + gk = n ∧ i = .int .i64 (k : Nat) ∧ a = .slice A' m c' ∧ ClAt wr A' m c' L ∧ Below w.heap.size w wr ∧ Hid (rightB L = true))
  case atStart => exact ⟨0, 0, none, 0, [], by omega, rfl, rfl, Reads.nil_ _ _ _, Below.refl _ _, Lib.hid rfl⟩
  case round =>
    obtain ⟨k, m, A', c', L, hk, rfl, rfl, hcl, hb, HR⟩ := hrel
    have HK := Lib.hid hk
    have hkn : k ≤ n := by omega
    clear hk
    by_cases hlt : k < n
    · obtain ⟨b, o, x, rfl, hbb, hx, hc⟩ := (h.below hb).at_ hlt
      clear hx
      have hm15 : bits .and .i64 x 15 = x % 16 := i64_mask 4 (by decide) x 15 (by decide)
      obtain ⟨y, hy⟩ : ∃ y : Int, x % 16 = y := ⟨_, rfl⟩
      have hy2 : 0 ≤ y ∧ y < 16 := by omega
      rw [hy] at hm15
      clear hy
      obtain ⟨id, hid⟩ : ∃ id : Int, 1 + y = id := ⟨_, rfl⟩
      obtain ⟨q, hq⟩ : ∃ q : Int, y0 + (k : Int) = q := ⟨_, rfl⟩
      have wid : IntKind.i64.wrap (1 + y) = id := by rw [← hid]; exact IntWalk.i64_in _ (by omega)
      have wq : IntKind.i64.wrap (y0 + (k : Int)) = q := by rw [← hq]; exact IntWalk.i64_in _ (by omega)
      have hmay : mayB id q = true := mayB_mk (by omega)
      have HM := Lib.hid hmay
      have HMM := Lib.hid (cl_length hcl)
      have hm4 : m ≤ 4 := by have := rightB_len HR.out; have := HMM.out; omega
      clear hmay hid hq
      go_wp2_with fail
      refine (find_any A' m c' L id _ hcl).mono ?_
      rintro e w1 ⟨rfl, hb1⟩
      generalize ((findC id L).getD noCl).1 = v1
      generalize ((findC id L).getD noCl).2.1 = v2
      generalize ((findC id L).getD noCl).2.2 = v3
      have hea := addM_eq HR.out HM.out
      have hb01 := hb.trans (hb1.mono hb.size)
      cases hf : (findC id L).isSome
      · have hnf : (findC id L).isSome = false := hf
        have HF := Lib.hid hnf
        clear hf hnf
        by_cases h4 : m = 4
        · have h4L : L.length = 4 := by have := HMM.out; omega
          have g4 : ((m : Int) == 4) = true := by subst h4; rfl
          have E : Hid (addM L id q = ([], 6)) := Lib.hid (by rw [hea, HF.out]; simp [h4L])
          clear hea h4L h4
          go_wp2_with fail
          refine (add_any A' m c' L id q _ (hcl.next (Below.alloc hb1 hb1.size _))).mono ?_
          rintro e w2 ⟨A2, n2, c2, rfl, hown2, hb2⟩
          rw [E.out]
          have hbx := (hb01.alloc hb01.size _).trans (hb2.mono (by have := hb01.size; simp; omega))
          clear hown2
          go_wp2_with fail
          go_roundg (n - (k + 1))
          case measure => have := HK.out; omega
          case rel => exact ⟨k + 1, m, A', c', L, by omega, by go_num, rfl, hcl.next (below_next (Below.alloc hb1 hb1.size _) hb2), hbx, HR⟩
        · have h4L : ¬ L.length = 4 := by have := HMM.out; omega
          have g4 : ((m : Int) == 4) = false := by simp; omega
          have E : Hid (addM L id q = (insC L (placeN id L) (id, q, false), 0)) := Lib.hid (by rw [hea, HF.out]; simp [h4L])
          have HR2 : Hid (rightB (insC L (placeN id L) (id, q, false)) = true) := Lib.hid (add_right HR.out HM.out HF.out h4L)
          have hfi : findC id (insC L (placeN id L) (id, q, false)) = some (id, q, false) := find_ins
          have hli : (insC L (placeN id L) (id, q, false)).length = m + 1 := by rw [ins_length (placeN_le _ _)]; have := HMM.out; omega
          obtain ⟨M, hM⟩ : ∃ M, M = insC L (placeN id L) (id, q, false) := ⟨_, rfl⟩
          rw [← hM] at E HR2 hfi hli
          have HFI := Lib.hid hfi
          have HLI := Lib.hid hli
          clear hea h4L h4 hM hfi hli
          go_wp2_with fail
          refine (add_any A' m c' L id q _ (hcl.next (Below.alloc hb1 hb1.size _))).mono ?_
          rintro e w2 ⟨A2, n2, c2, rfl, hown2, hb2⟩
          rw [E.out] at hown2 ⊢
          have hbx := (hb01.alloc hb01.size _).trans (hb2.mono (by have := hb01.size; simp; omega))
          obtain rfl : n2 = m + 1 := by have := own_cl (L := M) hown2; have := HLI.out; omega
          have hcl2 : ClAt w2 A2 (m + 1) c2 M := Reads.of_own hown2
          clear hown2 hb2
          go_wp2_with fail
          refine (find_any A2 (m + 1) c2 M id _ hcl2).mono ?_
          rintro e w3 ⟨rfl, hb3⟩
          rw [HFI.out]
          have hbx3 := hbx.trans (hb3.mono hbx.size)
          have gm : (((m + 1 : Nat) : Int) != (m : Int) + 1) = false := by simp
          go_wp2_with fail
          go_roundg (n - (k + 1))
          case measure => have := HK.out; omega
          case rel => exact ⟨k + 1, m + 1, A2, c2, M, by omega, by go_num, rfl, hcl2.next (hb3.alloc hb3.size _), hbx3.alloc hbx3.size _, HR2⟩
      · have hnf : (findC id L).isSome = true := hf
        have E : Hid (addM L id q = ([], 5)) := Lib.hid (by rw [hea, hnf]; simp)
        clear hf hnf hea
        go_wp2_with fail
        refine (add_any A' m c' L id q _ (hcl.next (Below.alloc hb1 hb1.size _))).mono ?_
        rintro e w2 ⟨A2, n2, c2, rfl, hown2, hb2⟩
        rw [E.out]
        have hbx := (hb01.alloc hb01.size _).trans (hb2.mono (by have := hb01.size; simp; omega))
        clear hown2
        go_wp2_with fail
        go_roundg (n - (k + 1))
        case measure => have := HK.out; omega
        case rel => exact ⟨k + 1, m, A', c', L, by omega, by go_num, rfl, hcl.next (below_next (Below.alloc hb1 hb1.size _) hb2), hbx, HR⟩
    · obtain rfl : k = n := by omega
      go_wp2_with fail
      refine (right_any _ _ _ L _ hcl).mono ?_
      rintro e w1 ⟨rfl, hb1⟩
      rw [HR.out]
      go_wp2_with fail
      refine (known_any _).mono ?_
      rintro e w2 ⟨rfl, hb2⟩
      go_wp2_with fail
      go_ret
      exact ⟨rfl, hb.trans ((hb1.trans (hb2.mono hb1.size)).mono hb.size)⟩
end Go.Proofs.Ytongakhcmdkeiaa
