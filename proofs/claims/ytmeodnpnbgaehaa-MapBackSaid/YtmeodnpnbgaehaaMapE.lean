/- The law MapBack, walked: whatever the list and the numbers, the Go function returns true and writes nothing that was there. Conditions: the slice reads as integers. -/
import Derived.Test.YtmeodnpnbgaehaaMapD
namespace Go.Proofs.Ytmeodnpnbgaehaa
open Go.RowKit

theorem getR_cases (bs : List Int) (m : Nat) : (getR bs m = ([], 2)) ∨ (getR bs m = (dec bs m, 0) ∧ rightM (dec bs m) = true ∧ ((strOfNums (accM (dec bs m) m)).toList == (strOfNums bs).toList) = true) := by
  cases h : getOk bs m
  · left; simp [getR, h]
  · right
    refine ⟨by simp [getR, h], ?_⟩
    simpa [getOk] using h

set_option maxHeartbeats 1000000 in
theorem back_law (A : Option Addr) (n c : Nat) (l : List Int) (more nn : Int) (w : World) (h : Reads w w.heap.size 1 A n c (cells .i64 l)) :
    Calls Try.prog 3 #[.slice A n c, .int .u8 more, .int .i64 nn] w fun e w' => e = .returned (.bool true) ∧ Below w.heap.size w w' := by
  have hbig := h.big
  by_cases h300 : 300 < n
  · go_enter Try.func3, Try.ntmps3
    go_wp2_with fail
    refine (known_any _).mono ?_
    rintro e w' ⟨rfl, hb⟩
    go_wp2_with fail
    go_ret
    exact ⟨rfl, hb⟩
  · obtain ⟨i0, hi0, hz0, hz1, hz2⟩ := info_parts info5
    obtain ⟨k, hk⟩ : ∃ k : Nat, bits .and .i64 nn 255 = (k : Int) := ⟨(nn % 256).toNat, by rw [i64_mask 8 (by decide) nn 255 (by decide)]; omega⟩
    have hk5 : k < 256 := by
      have := i64_mask 8 (by decide) nn 255 (by decide)
      omega
    have HK := Lib.hid hk
    clear hk
    obtain ⟨a, ha⟩ : ∃ a, a = l.map stOf := ⟨_, rfl⟩
    have hr : rightM a = true := by rw [ha]; exact states_right (by rw [h.length]; omega)
    have hln : a.length = n := by rw [ha, List.length_map]; exact h.length
    have HG := Lib.hid (back_ok hr hln)
    obtain ⟨bs, hbs⟩ : ∃ bs, bs = accM a n := ⟨_, rfl⟩
    have HA := Lib.hid ha
    have HR := Lib.hid hr
    have HL := Lib.hid hln
    have HB := Lib.hid hbs
    clear ha hr hln hbs
    go_enter Try.func3, Try.ntmps3
    go_wp2_with fail
    refine (states_any _ _ _ _ _ h (by omega)).mono ?_
    rintro e w1 ⟨A1, c1, rfl, hown1, hb1⟩
    rw [← HA.out] at hown1
    go_wp2_with fail
    refine (put_yes _ _ _ _ _ (Reads.of_own hown1) HR.out).mono ?_
    rintro e w2 ⟨A2, c2, rfl, hown2, hb2⟩
    rw [← HB.out] at hown2
    have R1 := (Reads.of_own hown1).below hb2
    have R2 := Reads.of_own hown2
    have hs1 := hb2.size
    have hb2' := hb1.trans (hb2.mono hb1.size)
    clear hown1 hown2 hb1 hb2
    go_wp2_with fail
    refine (get_fit _ _ _ n _ _ R2 (by omega) rfl).mono ?_
    rintro e w3 ⟨A3, q3, c3, L, er, rfl, hown3, hb3, hR⟩
    rw [HB.out, HG.out] at hR
    obtain ⟨rfl, rfl⟩ := Prod.mk.inj hR
    obtain rfl := HL.out.symm.trans (own_length hown3)
    clear hR
    have R3 := Reads.of_own hown3
    have R1' := (R1.more hs1).below hb3
    have R2' := R2.below hb3
    go_wp2_with fail
    refine (same_any _ _ _ _ _ _ _ _ _ (R1'.here (by decide)) R3).mono ?_
    rintro e w' ⟨rfl, q, rfl⟩
    rw [decide_eq_true (rfl : a = a)]
    go_wp2_with (first
      | (at_builtin; refine wpList_append_reads _ rfl (.tmp 61) (.tmp 62) 25 rfl w3.heap.size 5 i0 _ 1 1 Try.underlying25 hi0 hz0 hz1 hz2 rfl (by decide) (.slice (some ⟨w3.heap.size, 0, none⟩) 0 0) 0 [] rfl (World.ownsRow_made (w3.drewN q) #[] 0 (Nat.le_refl _) (Nat.zero_le _) (by simp)) w2.heap.size _ ((n + 3) / 4) c2 _ rfl (Reads.alloc (R2'.drewN q) hb3.size _) (cells_oneCell _ _) (by simp only [maxLen]; omega) (by omega) (by simp) ?_; intro A4 c4 w4 hown4 hg4 hb4 _; simp only [Nat.zero_add, List.nil_append] at hown4)
      | (at_builtin; refine wpList_append_new w4 _ _ rfl (.tmp 63) (.tmp 65) 25 rfl w3.heap.size 5 i0 _ 1 1 Try.underlying25 hi0 hz0 hz1 hz2 rfl (by decide) (.slice A4 ((n + 3) / 4) c4) ((n + 3) / 4) _ rfl hown4 1 rfl rfl (by intro u hu; simp at hu; subst hu; rfl) (by simp only [maxLen]; omega) (by omega) (by have := hb4.size; simp at this; omega) ?_; intro A5 c5 w5 hown5 hg5 hb5 _)
      | fail)
    have hb5' : Below w2.heap.size w2 w5 := hb3.trans ((((below_drewN (Below.refl w3.heap.size w3) q).alloc (by simp) _).trans hb4 |>.trans hb5).mono hb3.size)
    have R2w := R2.below hb5'
    have hb5x := hb2'.trans (hb5'.mono hb2'.size)
    clear hown5 hg5 hb5 hg4 hb4 hown4 R3 R1' R2' hown3 R1
    refine (get_len _ _ _ n _ (by omega) (by omega)).mono ?_
    rintro e w' ⟨rfl, rfl⟩
    go_wp2_with fail
    rw [HK.out]
    by_cases hkn : (n + 3) / 4 = (k + 3) / 4
    · rcases getR_cases bs k with hg | ⟨hg, hg1, hg2⟩
      · refine (get_fit _ _ _ k _ _ (R2w.here (by decide)) (by omega) hkn).mono ?_
        rintro e w6 ⟨A6, q6, c6, L6, er6, rfl, hown6, hb6, hR6⟩
        rw [hg] at hR6
        obtain ⟨rfl, rfl⟩ := Prod.mk.inj hR6
        have R2x := R2w.below (hb6.mono hb5'.size)
        have hb6x := hb5x.trans (hb6.mono hb5x.size)
        clear hown6 hb6 hR6 hg
        by_cases hn0 : n = 0
        · subst hn0
          go_wp2_with fail
          refine (known_any _).mono ?_
          rintro e w7 ⟨rfl, hb7⟩
          go_wp2_with fail
          go_ret
          exact ⟨rfl, hb6x.trans (hb7.mono hb6x.size)⟩
        · have hc2 := R2x.le
          go_wp2_with fail
          refine (get_len _ _ _ n _ (by omega) (by omega)).mono ?_
          rintro e w' ⟨rfl, rfl⟩
          go_wp2_with fail
          refine (known_any _).mono ?_
          rintro e w7 ⟨rfl, hb7⟩
          go_wp2_with fail
          go_ret
          exact ⟨rfl, hb6x.trans (hb7.mono hb6x.size)⟩
      · refine (get_fit _ _ _ k _ _ (R2w.here (by decide)) (by omega) hkn).mono ?_
        rintro e w6 ⟨A6, q6, c6, L6, er6, rfl, hown6, hb6, hR6⟩
        rw [hg] at hR6
        obtain ⟨rfl, rfl⟩ := Prod.mk.inj hR6
        obtain rfl := (dec_length bs k).symm.trans (own_length hown6)
        have HG1 := Lib.hid hg1
        have HG2 := Lib.hid hg2
        clear hg hg1 hg2 hR6
        have HKN := Lib.hid hkn
        clear hkn
        go_wp2_with fail
        refine (put_yes _ _ _ _ _ (Reads.of_own hown6) HG1.out).mono ?_
        rintro e w8 ⟨A8, c8, rfl, hown8, hb8⟩
        have R2x := (R2w.below (hb6.mono hb5'.size)).below (hb8.mono (Nat.le_trans hb5'.size hb6.size))
        have hb6x := (hb5x.trans (hb6.mono hb5x.size)).trans (hb8.mono (hb5x.trans (hb6.mono hb5x.size)).size)
        have cv1 := conv_reads 25 5 9 Try.underlying25 Try.underlying5 Try.underlying9 (Reads.of_own hown8)
        have cv2 := conv_reads 25 5 9 Try.underlying25 Try.underlying5 Try.underlying9 R2x
        have hstr := HG2.out
        clear hown6 hown8 hb6 hb8
        by_cases hn0 : n = 0
        · subst hn0
          go_wp2_with fail
          refine (known_any _).mono ?_
          rintro e w7 ⟨rfl, hb7⟩
          go_wp2_with fail
          go_ret
          exact ⟨rfl, hb6x.trans (hb7.mono hb6x.size)⟩
        · have hc2 := R2x.le
          go_wp2_with fail
          refine (get_len _ _ _ n _ (by omega) (by omega)).mono ?_
          rintro e w' ⟨rfl, rfl⟩
          go_wp2_with fail
          refine (known_any _).mono ?_
          rintro e w7 ⟨rfl, hb7⟩
          go_wp2_with fail
          go_ret
          exact ⟨rfl, hb6x.trans (hb7.mono hb6x.size)⟩
    · refine (get_len _ _ _ k _ (by omega) hkn).mono ?_
      rintro e w' ⟨rfl, rfl⟩
      clear hkn
      by_cases hn0 : n = 0
      · subst hn0
        go_wp2_with fail
        refine (known_any _).mono ?_
        rintro e w7 ⟨rfl, hb7⟩
        go_wp2_with fail
        go_ret
        exact ⟨rfl, hb5x.trans (hb7.mono hb5x.size)⟩
      · have hc2 := R2w.le
        go_wp2_with fail
        refine (get_len _ _ _ n _ (by omega) (by omega)).mono ?_
        rintro e w' ⟨rfl, rfl⟩
        go_wp2_with fail
        refine (known_any _).mono ?_
        rintro e w7 ⟨rfl, hb7⟩
        go_wp2_with fail
        go_ret
        exact ⟨rfl, hb5x.trans (hb7.mono hb5x.size)⟩
end Go.Proofs.Ytmeodnpnbgaehaa
