/- The law MapDiffs, walked: whatever the two lists, the Go function returns true and writes nothing that was there. Conditions: the slices read as integers. -/
import Derived.Test.YtmeodnpnbgaehaaMapD
namespace Go.Proofs.Ytmeodnpnbgaehaa
open Go.RowKit

theorem diffN_split (a b : List Int) (i d : Nat) : ∃ r, diffN a b (i + d) = diffN a b i ++ r := by
  induction d with
  | zero => exact ⟨[], by simp⟩
  | succ d ih =>
    obtain ⟨r, hr⟩ := ih
    refine ⟨r ++ (if diffP a b (i + d) then [i + d] else []), ?_⟩
    rw [← List.append_assoc, ← hr, ← Nat.add_assoc]
    unfold diffN
    rw [List.range_succ, List.filter_append]
    congr 1
    by_cases h : diffP a b (i + d) = true <;> simp [h]
theorem diffM_at {a b : List Int} {i N : Nat} (h : diffP a b i = true) (hi : i < N) : (diffM a b N)[(diffM a b i).length]? = some (i : Int) := by
  obtain ⟨r, hr⟩ := diffN_split a b (i + 1) (N - (i + 1))
  rw [Nat.add_sub_cancel' (by omega)] at hr
  have e : diffM a b N = diffM a b (i + 1) ++ r.map Int.ofNat := by rw [diffM, hr, List.map_append]; rfl
  rw [e, diff_yes h, List.append_assoc, List.getElem?_append_right (Nat.le_refl _), Nat.sub_self]
  rfl
theorem diffM_len_yes {a b : List Int} {i : Nat} (h : diffP a b i = true) : (diffM a b (i + 1)).length = (diffM a b i).length + 1 := by rw [diff_yes h, List.length_append]; rfl
theorem diffM_len_no {a b : List Int} {i : Nat} (h : diffP a b i = false) : (diffM a b (i + 1)).length = (diffM a b i).length := by rw [diff_no h]

set_option maxHeartbeats 1000000 in
theorem diffs_law (A B : Option Addr) (n c m d : Nat) (l r : List Int) (w : World) (hA : Reads w w.heap.size 1 A n c (cells .i64 l)) (hB : Reads w w.heap.size 1 B m d (cells .i64 r)) :
    Calls Try.prog 5 #[.slice A n c, .slice B m d] w fun e w' => e = .returned (.bool true) ∧ Below w.heap.size w w' := by
  have hbig := hA.big
  have hbig' := hB.big
  by_cases h300 : 300 < n
  · go_enter Try.func5, Try.ntmps5
    go_wp2_with fail
    refine (known_any _).mono ?_
    rintro e w' ⟨rfl, hb⟩
    go_wp2_with fail
    go_ret
    exact ⟨rfl, hb⟩
  by_cases h300' : 300 < m
  · go_enter Try.func5, Try.ntmps5
    go_wp2_with fail
    refine (known_any _).mono ?_
    rintro e w' ⟨rfl, hb⟩
    go_wp2_with fail
    go_ret
    exact ⟨rfl, hb⟩
  obtain ⟨a, ha⟩ : ∃ a, a = l.map stOf := ⟨_, rfl⟩
  obtain ⟨b, hb⟩ : ∃ b, b = r.map stOf := ⟨_, rfl⟩
  have HA := Lib.hid ha
  have HB := Lib.hid hb
  clear ha hb
  go_enter Try.func5, Try.ntmps5
  go_wp2_with fail
  refine (states_any _ _ _ _ _ hA (by omega)).mono ?_
  rintro e w1 ⟨A1, c1, rfl, hown1, hb1⟩
  rw [← HA.out] at hown1
  go_wp2_with fail
  refine (states_any _ _ _ _ _ ((hB.below hb1).more hb1.size) (by omega)).mono ?_
  rintro e w2 ⟨B2, d2, rfl, hown2, hb2⟩
  rw [← HB.out] at hown2
  have R1 := ((Reads.of_own hown1).below hb2).more hb2.size
  have R2 := Reads.of_own hown2
  have hb2x := hb1.trans (hb2.mono hb1.size)
  clear hown1 hown2 hb1 hb2
  go_wp2_with fail
  refine (diff_any _ _ _ _ _ _ _ _ _ R1 R2 (by omega) (by omega)).mono ?_
  rintro e w3 ⟨A3, c3, q, rfl, hown3, hb3⟩
  have R1b := (R1.below hb3).more hb3.size
  have R2b := (R2.below hb3).more hb3.size
  have R3 := Reads.of_own hown3
  have hb3x := hb2x.trans (hb3.mono hb2x.size)
  have HQ := Lib.hid (own_length hown3)
  clear hown3 hb3 hb2x R1 R2
  go_wp2_with fail
  rcases Nat.lt_or_ge n m with hnm | hnm
  all_goals
    go_loop [8, 9, 10, 11, 12] (fun kk ii _ _ _ => ∃ i k : Nat, i ≤ max n m ∧ ii = .int .i64 i ∧ kk = .int .i64 k ∧ (diffM a b i).length = k) (fun _ ii _ _ _ => max n m - (intOf ii).toNat)
    case atStart => exact ⟨0, 0, Nat.zero_le _, rfl, rfl, rfl⟩
    case round =>
      obtain ⟨i, k, hi, rfl, rfl, hk⟩ := hrel
      have hki := diff_len a b i
      rw [hk] at hki
      have HK := Lib.hid hk
      clear hk
      by_cases hlt : i < max n m
      · have hlt' : i < n ∨ i < m := by omega
        clear hlt
        obtain ⟨x, hx⟩ : ∃ x, atM a (i : Int) = x := ⟨_, rfl⟩
        obtain ⟨y, hy⟩ : ∃ y, atM b (i : Int) = y := ⟨_, rfl⟩
        have hP : diffP a b i = ((y == 1) || ((x == 0) != (y == 0))) := by rw [diffP, hx, hy]
        have HP := Lib.hid hP
        clear hP
        go_wp2_with fail
        refine (at_any _ _ _ _ _ _ R1b).mono ?_
        rintro e w' ⟨rfl, rfl⟩
        rw [hx]
        clear hx
        go_wp2_with fail
        refine (at_any _ _ _ _ _ _ R2b).mono ?_
        rintro e w' ⟨rfl, rfl⟩
        rw [hy]
        clear hy
        by_cases hy1 : y = 1
        · subst hy1
          have hd : diffP a b i = true := by rw [HP.out]; simp
          obtain ⟨bb, oo, z, rfl, hbb, hz, hc⟩ := R3.at_ (j := k) (by rw [← HQ.out]; exact (List.getElem?_eq_some_iff.1 (by rw [← HK.out]; exact diffM_at hd (by omega))).1)
          have hzi : z = (i : Int) := by
            have e := diffM_at hd (show i < max n m by omega)
            rw [HK.out, hz] at e
            injection e
          subst hzi
          have hkq : k < q := by
            rw [← HQ.out]; exact (List.getElem?_eq_some_iff.1 hz).1
          have HD := Lib.hid (diffM_len_yes hd)
          clear hd hz HP
          go_wp2_with fail
          go_round
          case rel => exact ⟨i + 1, k + 1, by omega, by go_num, by go_num, by rw [HD.out, HK.out]⟩
          case measure => simp [intOf]; omega
        · by_cases hy0 : y = 0
          · subst hy0
            by_cases hx0 : x = 0
            · subst hx0
              have hd : diffP a b i = false := by rw [HP.out]; rfl
              have HD := Lib.hid (diffM_len_no hd)
              clear hd HP
              go_wp2_with fail
              go_round
              case rel => exact ⟨i + 1, k, by omega, by go_num, rfl, by rw [HD.out, HK.out]⟩
              case measure => simp [intOf]; omega
            · have hd : diffP a b i = true := by rw [HP.out, beq_eq_false_iff_ne.2 hx0]; rfl
              obtain ⟨bb, oo, z, rfl, hbb, hz, hc⟩ := R3.at_ (j := k) (by rw [← HQ.out]; exact (List.getElem?_eq_some_iff.1 (by rw [← HK.out]; exact diffM_at hd (by omega))).1)
              have hzi : z = (i : Int) := by
                have e := diffM_at hd (show i < max n m by omega)
                rw [HK.out, hz] at e
                injection e
              subst hzi
              have hkq : k < q := by
                rw [← HQ.out]; exact (List.getElem?_eq_some_iff.1 hz).1
              have HD := Lib.hid (diffM_len_yes hd)
              clear hd hz HP
              go_wp2_with fail
              go_round
              case rel => exact ⟨i + 1, k + 1, by omega, by go_num, by go_num, by rw [HD.out, HK.out]⟩
              case measure => simp [intOf]; omega
          · by_cases hx0 : x = 0
            · subst hx0
              have hd : diffP a b i = true := by rw [HP.out, beq_eq_false_iff_ne.2 hy0, beq_eq_false_iff_ne.2 hy1]; rfl
              obtain ⟨bb, oo, z, rfl, hbb, hz, hc⟩ := R3.at_ (j := k) (by rw [← HQ.out]; exact (List.getElem?_eq_some_iff.1 (by rw [← HK.out]; exact diffM_at hd (by omega))).1)
              have hzi : z = (i : Int) := by
                have e := diffM_at hd (show i < max n m by omega)
                rw [HK.out, hz] at e
                injection e
              subst hzi
              have hkq : k < q := by
                rw [← HQ.out]; exact (List.getElem?_eq_some_iff.1 hz).1
              have HD := Lib.hid (diffM_len_yes hd)
              clear hd hz HP
              go_wp2_with fail
              go_round
              case rel => exact ⟨i + 1, k + 1, by omega, by go_num, by go_num, by rw [HD.out, HK.out]⟩
              case measure => simp [intOf]; omega
            · have hd : diffP a b i = false := by rw [HP.out, beq_eq_false_iff_ne.2 hy0, beq_eq_false_iff_ne.2 hy1, beq_eq_false_iff_ne.2 hx0]; rfl
              have e1 := beq_eq_false_iff_ne.2 hy0
              have e2 := beq_eq_false_iff_ne.2 hy1
              have e3 := beq_eq_false_iff_ne.2 hx0
              have e4 := bne_iff_ne.2 hx0
              have HD := Lib.hid (diffM_len_no hd)
              clear hd HP
              go_wp2_with fail
              go_round
              case rel => exact ⟨i + 1, k, by omega, by go_num, rfl, by rw [HD.out, HK.out]⟩
              case measure => simp [intOf]; omega
      · obtain rfl : i = max n m := by omega
        have h1 : n ≤ max n m := by omega
        have h2 : m ≤ max n m := by omega
        obtain rfl : k = q := by rw [← HK.out]; exact HQ.out
        go_wp2_with fail
        refine (known_any _).mono ?_
        rintro e w7 ⟨rfl, hb7⟩
        go_wp2_with fail
        go_ret
        exact ⟨rfl, hb3x.trans (hb7.mono hb3x.size)⟩
end Go.Proofs.Ytmeodnpnbgaehaa
