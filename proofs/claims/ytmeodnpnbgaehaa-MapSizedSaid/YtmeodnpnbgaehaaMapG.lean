/- The law MapSized, walked: whatever the list and the numbers, the Go function returns true and writes nothing that was there. Conditions: the slice reads as integers. -/
import Derived.Test.YtmeodnpnbgaehaaMapD
namespace Go.Proofs.Ytmeodnpnbgaehaa
open Go.RowKit

theorem sizeM_length (l : List Int) (m : Nat) : (sizeM l m).length = m := by simp [sizeM]; omega
theorem sizeM_get (l : List Int) (m j : Nat) : (sizeM l m).getD j 0 = if j < m then l.getD j 0 else 0 := by
  unfold sizeM
  rw [List.getD_eq_getElem?_getD, List.getD_eq_getElem?_getD, List.getElem?_append, List.length_take]
  by_cases hj : j < m
  · rw [if_pos hj]
    by_cases hl : j < l.length
    · rw [if_pos (by omega), List.getElem?_take, if_pos hj]
    · rw [if_neg (by omega), List.getElem?_eq_none (by omega : l.length ≤ j), List.getElem?_replicate]
      split <;> rfl
  · rw [if_neg hj, if_neg (by omega), List.getElem?_replicate]
    split <;> rfl
theorem sizeM_right {l : List Int} (h : rightM l = true) {m : Nat} (hm : m ≤ 512) : rightM (sizeM l m) = true := by
  simp only [rightM, Bool.and_eq_true, List.all_eq_true] at h
  simp only [rightM, sizeM_length, hm, decide_true, Bool.and_true, List.all_eq_true]
  intro x hx
  simp only [sizeM, List.mem_append] at hx
  rcases hx with hx | hx
  · exact h.1 x (List.mem_of_mem_take hx)
  · rw [(List.mem_replicate.1 hx).2]; rfl
theorem sizeM_back {l : List Int} {m n : Nat} (hl : l.length = n) (hn : n ≤ m) : sizeM (sizeM l m) n = l := by
  have e : (sizeM l m).take n = l := by
    unfold sizeM
    rw [List.take_of_length_le (by omega : l.length ≤ m), List.take_append_of_le_length (by omega), List.take_of_length_le (by omega)]
  have h2 : n - m = 0 := by omega
  show (sizeM l m).take n ++ List.replicate (n - (sizeM l m).length) 0 = l
  rw [e, sizeM_length, h2]
  simp
theorem sized_at (l : List Int) (m j : Nat) (h : j < m) : atM (sizeM l m) (j : Int) = atM l (j : Int) := by rw [atM_nat, atM_nat, sizeM_get, if_pos h]
theorem sized_out (l : List Int) (m j : Nat) (h : ¬ j < m) : atM (sizeM l m) (j : Int) = 0 := by rw [atM_nat, sizeM_get, if_neg h]
theorem mask9 (x : Int) : ∃ k : Nat, bits .and .i64 x 511 = (k : Int) ∧ k ≤ 511 := by
  have h := i64_mask 9 (by decide) x 511 (by decide)
  exact ⟨(x % 512).toNat, by omega, by omega⟩
theorem held_nat {k : Nat} (h : k ≤ 512) : held (k : Int) = k := by unfold held; omega
theorem held_sum (n k : Nat) : held ((n : Int) + (k : Int)) = min (n + k) 512 := by unfold held; omega

theorem sized_law (A : Option Addr) (n c : Nat) (l : List Int) (nn ii : Int) (w : World) (h : Reads w w.heap.size 1 A n c (cells .i64 l)) :
    Calls Try.prog 4 #[.slice A n c, .int .i64 nn, .int .i64 ii] w fun e w' => e = .returned (.bool true) ∧ Below w.heap.size w w' := by
  have hbig := h.big
  by_cases h300 : 300 < n
  · go_enter Try.func4, Try.ntmps4
    go_wp2_with fail
    refine (known_any _).mono ?_
    rintro e w' ⟨rfl, hb⟩
    go_wp2_with fail
    go_ret
    exact ⟨rfl, hb⟩
  · obtain ⟨k, hk, hk5⟩ := mask9 nn
    obtain ⟨j, hj, hj5⟩ := mask9 ii
    obtain ⟨a, ha⟩ : ∃ a, a = l.map stOf := ⟨_, rfl⟩
    have hr : rightM a = true := by rw [ha]; exact states_right (by rw [h.length]; omega)
    have hln : a.length = n := by rw [ha, List.length_map]; exact h.length
    have HJ := Lib.hid hj
    have HK := Lib.hid hk
    have HA := Lib.hid ha
    have HR := Lib.hid hr
    have HL := Lib.hid hln
    clear ha hr hln hk hj
    go_enter Try.func4, Try.ntmps4
    go_wp2_with fail
    refine (states_any _ _ _ _ _ h (by omega)).mono ?_
    rintro e w1 ⟨A1, c1, rfl, hown1, hb1⟩
    rw [← HA.out] at hown1
    have R1 := Reads.of_own hown1
    clear hown1
    go_wp2_with fail
    rw [HK.out]
    refine (size_any _ _ _ k _ _ _ R1 (held_nat (by omega))).mono ?_
    rintro e w2 ⟨A2, c2, rfl, hown2, hb2⟩
    have R2 := Reads.of_own hown2
    have R1b := R1.below hb2
    have hb2x := hb1.trans (hb2.mono hb1.size)
    have hs2 := hb2.size
    clear hown2 hb1 R1 hb2
    go_wp2_with fail
    refine (right_any _ _ _ _ _ R2).mono ?_
    rintro e w' ⟨rfl, rfl⟩
    rw [sizeM_right HR.out (by omega)]
    have R1c := R1b.more hs2
    clear R1b
    by_cases hjk : j < k
    · have ht : bits .and .i64 ii 511 < (k : Int) := by rw [HJ.out]; omega
      go_wp2_with fail
      rw [HJ.out]
      refine (at_any _ _ _ _ _ _ (R1c.here (by decide))).mono ?_
      rintro e w' ⟨rfl, rfl⟩
      go_wp2_with fail
      refine (at_any _ _ _ _ _ _ R2).mono ?_
      rintro e w' ⟨rfl, rfl⟩
      rw [sized_at a k j hjk]
      go_wp2_with fail
      refine (size_any _ _ _ (min (n + k) 512) _ _ _ (R1c.here (by decide)) (held_sum n k)).mono ?_
      rintro e w3 ⟨A3, c3, rfl, hown3, hb3⟩
      have R1d := (R1c.below (hb3.mono (Nat.le_refl _)))
      have R3 := Reads.of_own hown3
      have hb3x := hb2x.trans (hb3.mono hb2x.size)
      have hs3 := hb3.size
      clear hown3 hb3
      go_wp2_with fail
      refine (size_any _ _ _ n _ _ _ R3 (held_nat (by omega))).mono ?_
      rintro e w4 ⟨A4, c4, rfl, hown4, hb4⟩
      rw [sizeM_back HL.out (by omega)] at hown4
      have R1e := (R1d.more hs3).below hb4
      have hb4x := hb3x.trans (hb4.mono hb3x.size)
      have R4 := Reads.of_own hown4
      clear hown4 hb4
      go_wp2_with fail
      refine (same_any _ _ _ _ _ _ _ _ _ R4 (R1e.here (by decide))).mono ?_
      rintro e w' ⟨rfl, q, rfl⟩
      rw [decide_eq_true (rfl : a = a)]
      go_wp2_with fail
      refine (known_any _).mono ?_
      rintro e w7 ⟨rfl, hb7⟩
      go_wp2_with fail
      go_ret
      exact ⟨rfl, (below_drewN hb4x q).trans (hb7.mono (by have := hb4x.size; simpa using this))⟩
    · have ht : (k : Int) ≤ bits .and .i64 ii 511 := by rw [HJ.out]; omega
      go_wp2_with fail
      rw [HJ.out]
      refine (at_any _ _ _ _ _ _ R2).mono ?_
      rintro e w' ⟨rfl, rfl⟩
      rw [sized_out a k j hjk]
      go_wp2_with fail
      refine (size_any _ _ _ (min (n + k) 512) _ _ _ (R1c.here (by decide)) (held_sum n k)).mono ?_
      rintro e w3 ⟨A3, c3, rfl, hown3, hb3⟩
      have R1d := (R1c.below (hb3.mono (Nat.le_refl _)))
      have R3 := Reads.of_own hown3
      have hb3x := hb2x.trans (hb3.mono hb2x.size)
      have hs3 := hb3.size
      clear hown3 hb3
      go_wp2_with fail
      refine (size_any _ _ _ n _ _ _ R3 (held_nat (by omega))).mono ?_
      rintro e w4 ⟨A4, c4, rfl, hown4, hb4⟩
      rw [sizeM_back HL.out (by omega)] at hown4
      have R1e := (R1d.more hs3).below hb4
      have hb4x := hb3x.trans (hb4.mono hb3x.size)
      have R4 := Reads.of_own hown4
      clear hown4 hb4
      go_wp2_with fail
      refine (same_any _ _ _ _ _ _ _ _ _ R4 (R1e.here (by decide))).mono ?_
      rintro e w' ⟨rfl, q, rfl⟩
      rw [decide_eq_true (rfl : a = a)]
      go_wp2_with fail
      refine (known_any _).mono ?_
      rintro e w7 ⟨rfl, hb7⟩
      go_wp2_with fail
      go_ret
      exact ⟨rfl, (below_drewN hb4x q).trans (hb7.mono (by have := hb4x.size; simpa using this))⟩
end Go.Proofs.Ytmeodnpnbgaehaa
