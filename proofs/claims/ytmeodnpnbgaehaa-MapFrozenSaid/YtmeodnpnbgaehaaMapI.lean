/- The law MapFrozen: plain laws on lists, and the walk: whatever the list and the number, the Go function returns true and writes nothing that was there. Conditions: the slice reads as integers. -/
import Derived.Test.YtmeodnpnbgaehaaMapD
namespace Go.Proofs.Ytmeodnpnbgaehaa
open Go.RowKit
theorem filter_none {p : Nat → Bool} {M : Nat} (h : ∀ i, i < M → p i = false) : (List.range M).filter p = [] := by
  rw [List.filter_eq_nil_iff]
  intro i hi
  simp [h i (by simpa using hi)]
theorem filter_one {p : Nat → Bool} {j : Nat} (hj : p j = true) : ∀ {M : Nat}, (∀ i, i < M → i ≠ j → p i = false) → j < M → (List.range M).filter p = [j]
  | 0, _, h => absurd h (by omega)
  | M + 1, h, hjM => by
    rw [List.range_succ, List.filter_append]
    by_cases e : M = j
    · subst e
      rw [filter_none (fun i hi => h i (by omega) (by omega))]
      simp [hj]
    · rw [filter_one hj (fun i hi => h i (by omega)) (by omega)]
      simp [h M (by omega) e]
theorem turn_at {a : List Int} {j : Nat} {to : Int} (hj : j < 512) (ht : st3 to = true) (i : Nat) : atM (turnM a j to) (i : Int) = if i = j then to else atM a (i : Int) := by
  have hok : turnOk (j : Int) to = true := by simp [turnOk, ht]; omega
  rw [turnM, if_pos hok, atM_nat, atM_nat, Int.toNat_natCast, List.getD_eq_getElem?_getD, List.getElem?_set]
  by_cases h : j = i
  · subst h
    have : j < (a ++ List.replicate (j + 1 - a.length) 0).length := by simp; omega
    rw [if_pos rfl, if_pos this, if_pos rfl]
    rfl
  · rw [if_neg h, if_neg (fun e => h e.symm), List.getElem?_append, List.getD_eq_getElem?_getD]
    by_cases hl : i < a.length
    · rw [if_pos hl]
    · rw [if_neg hl, List.getElem?_eq_none (by omega : a.length ≤ i), List.getElem?_replicate]
      split <;> rfl
def NoLive (a : List Int) : Prop := ∀ i : Nat, atM a (i : Int) ≠ 1
theorem frz_noLive {l : List Int} : NoLive (l.map frz) := by
  intro i
  rw [atM_nat, List.getD_eq_getElem?_getD, List.getElem?_map]
  cases l[i]? with
  | none => simp
  | some x =>
    simp only [Option.map_some, Option.getD_some, frz]
    split <;> omega
theorem diff_self {a : List Int} (h : NoLive a) (M : Nat) : diffM a a M = [] := by
  unfold diffM diffN
  rw [filter_none]
  · rfl
  · intro i _
    have := h i
    simp [diffP, this]
theorem diff_live {a : List Int} (h : NoLive a) {j M : Nat} (hj : j < 512) (hM : j < M) : diffM a (turnM a j 1) M = [(j : Int)] := by
  unfold diffM diffN
  rw [filter_one (j := j) _ _ hM]
  · rfl
  · simp [diffP, turn_at hj (to := 1) (by decide)]
  · intro i _ hi
    have := h i
    simp [diffP, turn_at hj (to := 1) (by decide), hi, this]
theorem diff_gone {a : List Int} (h : NoLive a) {j M : Nat} (hj : j < 512) (hM : j < M) : diffM a (turnM a j 0) M = (if atM a (j : Int) = 0 then [] else [(j : Int)]) ∧ diffM (turnM a j 0) a M = (if atM a (j : Int) = 0 then [] else [(j : Int)]) := by
  by_cases h0 : atM a (j : Int) = 0
  · rw [if_pos h0]
    unfold diffM diffN
    constructor
    · rw [filter_none]
      · rfl
      · intro i _
        have := h i
        by_cases hi : i = j
        · subst hi
          simp [diffP, turn_at hj (to := 0) (by decide), h0]
        · simp [diffP, turn_at hj (to := 0) (by decide), hi, this]
    · rw [filter_none]
      · rfl
      · intro i _
        have := h i
        by_cases hi : i = j
        · subst hi
          simp [diffP, turn_at hj (to := 0) (by decide), h0]
        · simp [diffP, turn_at hj (to := 0) (by decide), hi, this]
  · rw [if_neg h0]
    unfold diffM diffN
    constructor
    · rw [filter_one (j := j) _ _ hM]
      · rfl
      · simp [diffP, turn_at hj (to := 0) (by decide), h0]
      · intro i _ hi
        have := h i
        simp [diffP, turn_at hj (to := 0) (by decide), hi, this]
    · rw [filter_one (j := j) _ _ hM]
      · rfl
      · simp [diffP, turn_at hj (to := 0) (by decide), h0]
      · intro i _ hi
        have := h i
        simp [diffP, turn_at hj (to := 0) (by decide), hi, this]
theorem frz_again (l : List Int) : (l.map frz).map frz = l.map frz := by
  rw [List.map_map]
  apply List.map_congr_left
  intro x _
  simp only [Function.comp, frz]
  split <;> simp_all

theorem mask8 (x : Int) : ∃ k : Nat, bits .and .i64 x 255 = (k : Int) ∧ k ≤ 255 := by
  have h := i64_mask 8 (by decide) x 255 (by decide)
  exact ⟨(x % 256).toNat, by omega, by omega⟩

set_option maxHeartbeats 1000000 in
theorem frozen_law (A : Option Addr) (n c : Nat) (l : List Int) (ii : Int) (w : World) (h : Reads w w.heap.size 1 A n c (cells .i64 l)) :
    Calls Try.prog 6 #[.slice A n c, .int .i64 ii] w fun e w' => e = .returned (.bool true) ∧ Below w.heap.size w w' := by
  have hbig := h.big
  by_cases h300 : 300 < n
  · go_enter Try.func6, Try.ntmps6
    go_wp2_with fail
    refine (known_any _).mono ?_
    rintro e w' ⟨rfl, hb⟩
    go_wp2_with fail
    go_ret
    exact ⟨rfl, hb⟩
  obtain ⟨j, hj, hj5⟩ := mask8 ii
  obtain ⟨a, ha⟩ : ∃ a, a = (l.map stOf).map frz := ⟨_, rfl⟩
  have hno : NoLive a := by rw [ha]; exact frz_noLive
  have hag : a.map frz = a := by rw [ha]; exact frz_again _
  have HJ := Lib.hid hj
  have HA := Lib.hid ha
  have HN := Lib.hid hno
  have HF := Lib.hid hag
  clear ha hj hno hag
  go_enter Try.func6, Try.ntmps6
  go_wp2_with fail
  refine (states_any _ _ _ _ _ h (by omega)).mono ?_
  rintro e w1 ⟨A1, c1, rfl, hown1, hb1⟩
  go_wp2_with fail
  refine (freeze_any _ _ _ _ _ (Reads.of_own hown1) (by omega)).mono ?_
  rintro e w2 ⟨A2, c2, rfl, hown2, hb2⟩
  rw [← HA.out] at hown2
  have Ra := Reads.of_own hown2
  have hx := below_next hb1 hb2
  clear hown1 hown2 hb1 hb2
  go_wp2_with fail
  rw [HJ.out]
  refine (turn_yes _ _ _ _ _ j _ _ Ra (by omega) (by omega) (by omega) rfl (by decide)).mono ?_
  rintro e w3 ⟨A3, c3, rfl, hown3, hb3⟩
  replace Ra := Ra.next hb3
  have Rb := Reads.of_own hown3
  replace hx := below_next hx hb3
  clear hown3 hb3
  go_wp2_with fail
  refine (diff_any _ _ _ _ _ _ _ _ _ Ra Rb (by omega) (by omega)).mono ?_
  rintro e w4 ⟨A4, c4, q4, rfl, hown4, hb4⟩
  rw [diff_live HN.out (by omega) (by omega)] at hown4
  obtain rfl : 1 = q4 := own_length hown4
  replace Ra := Ra.next hb4
  have Rd := Reads.of_own hown4
  replace hx := below_next hx hb4
  clear hown4 hb4 Rb
  go_wp2_with fail
  refine (turn_yes _ _ _ _ _ j _ _ Ra (by omega) (by omega) (by omega) rfl (by decide)).mono ?_
  rintro e w5 ⟨A5, c5, rfl, hown5, hb5⟩
  replace Ra := Ra.next hb5
  replace Rd := Rd.next hb5
  have Rc := Reads.of_own hown5
  replace hx := below_next hx hb5
  clear hown5 hb5
  go_wp2_with fail
  refine (diff_any _ _ _ _ _ _ _ _ _ Ra Rc (by omega) (by omega)).mono ?_
  rintro e w6 ⟨A6, c6, q6, rfl, hown6, hb6⟩
  rw [(diff_gone HN.out (by omega) (by omega)).1] at hown6
  replace Ra := Ra.next hb6
  replace Rd := Rd.next hb6
  replace Rc := Rc.next hb6
  have Rg := Reads.of_own hown6
  replace hx := below_next hx hb6
  clear hown6 hb6
  go_wp2_with fail
  refine (diff_any _ _ _ _ _ _ _ _ _ Rc Ra (by omega) (by omega)).mono ?_
  rintro e w7 ⟨A7, c7, q7, rfl, hown7, hb7⟩
  rw [(diff_gone HN.out (by omega) (by omega)).2] at hown7
  replace Ra := Ra.next hb7
  replace Rd := Rd.next hb7
  replace Rg := Rg.next hb7
  have Rh := Reads.of_own hown7
  replace hx := below_next hx hb7
  clear hown7 hb7 Rc
  go_wp2_with fail
  refine (at_any _ _ _ _ _ _ Ra).mono ?_
  rintro e w' ⟨rfl, rfl⟩
  obtain ⟨bd, od, zd, rfl, hbd, hzd, hcd⟩ := Rd.at_ (j := 0) (by decide)
  obtain rfl : (j : Int) = zd := by injection hzd
  clear hzd
  by_cases h0 : atM a (j : Int) = 0
  · rw [if_pos h0] at Rg Rh
    obtain rfl : 0 = q6 := Rg.length
    obtain rfl : 0 = q7 := Rh.length
    rw [h0]
    clear h0
    go_wp2_with fail
    refine (diff_any _ _ _ _ _ _ _ _ _ Ra Ra (by omega) (by omega)).mono ?_
    rintro e w8 ⟨A8, c8, q8, rfl, hown8, hb8⟩
    rw [diff_self HN.out] at hown8
    obtain rfl : 0 = q8 := own_length hown8
    have hcd' := (Below.cell hb8 (p := ⟨bd, od + 0, none⟩) hbd).trans hcd
    simp only [Nat.add_zero] at hcd'
    replace Ra := Ra.next hb8
    replace hx := below_next hx hb8
    clear hown8 hb8 hcd Rg Rh Rd
    go_wp2_with fail
    refine (freeze_any _ _ _ _ _ Ra (by omega)).mono ?_
    rintro e w9 ⟨A9, c9, rfl, hown9, hb9⟩
    rw [HF.out] at hown9
    replace Ra := Ra.next hb9
    have Rf := Reads.of_own hown9
    replace hx := below_next hx hb9
    clear hown9 hb9
    go_wp2_with fail
    refine (same_any _ _ _ _ _ _ _ _ _ Rf Ra).mono ?_
    rintro e w' ⟨rfl, q, rfl⟩
    rw [decide_eq_true (rfl : a = a)]
    go_wp2_with fail
    refine (known_any _).mono ?_
    rintro e w10 ⟨rfl, hb10⟩
    go_wp2_with fail
    go_ret
    exact ⟨rfl, (below_drewN hx q).trans (hb10.mono (by have := hx.size; simpa using this))⟩
  · rw [if_neg h0] at Rg Rh
    obtain rfl : 1 = q6 := Rg.length
    obtain rfl : 1 = q7 := Rh.length
    obtain ⟨bg, og, zg, rfl, hbg, hzg, hcg⟩ := Rg.at_ (j := 0) (by decide)
    obtain rfl : (j : Int) = zg := by injection hzg
    obtain ⟨bh, oh, zh, rfl, hbh, hzh, hch⟩ := Rh.at_ (j := 0) (by decide)
    obtain rfl : (j : Int) = zh := by injection hzh
    clear hzg hzh
    obtain ⟨x, hxx⟩ : ∃ x, atM a (j : Int) = x := ⟨_, rfl⟩
    rw [hxx] at h0 ⊢
    clear hxx
    go_wp2_with fail
    refine (diff_any _ _ _ _ _ _ _ _ _ Ra Ra (by omega) (by omega)).mono ?_
    rintro e w8 ⟨A8, c8, q8, rfl, hown8, hb8⟩
    rw [diff_self HN.out] at hown8
    obtain rfl : 0 = q8 := own_length hown8
    have hcd' := (Below.cell hb8 (p := ⟨bd, od + 0, none⟩) hbd).trans hcd
    have hcg' := (Below.cell hb8 (p := ⟨bg, og + 0, none⟩) hbg).trans hcg
    have hch' := (Below.cell hb8 (p := ⟨bh, oh + 0, none⟩) hbh).trans hch
    simp only [Nat.add_zero] at hcd' hcg' hch'
    replace Ra := Ra.next hb8
    replace hx := below_next hx hb8
    clear hown8 hb8 hcd hcg hch Rg Rh Rd
    go_wp2_with fail
    refine (freeze_any _ _ _ _ _ Ra (by omega)).mono ?_
    rintro e w9 ⟨A9, c9, rfl, hown9, hb9⟩
    rw [HF.out] at hown9
    replace Ra := Ra.next hb9
    have Rf := Reads.of_own hown9
    replace hx := below_next hx hb9
    clear hown9 hb9
    go_wp2_with fail
    refine (same_any _ _ _ _ _ _ _ _ _ Rf Ra).mono ?_
    rintro e w' ⟨rfl, q, rfl⟩
    rw [decide_eq_true (rfl : a = a)]
    go_wp2_with fail
    refine (known_any _).mono ?_
    rintro e w10 ⟨rfl, hb10⟩
    go_wp2_with fail
    go_ret
    exact ⟨rfl, (below_drewN hx q).trans (hb10.mono (by have := hx.size; simpa using this))⟩
end Go.Proofs.Ytmeodnpnbgaehaa
