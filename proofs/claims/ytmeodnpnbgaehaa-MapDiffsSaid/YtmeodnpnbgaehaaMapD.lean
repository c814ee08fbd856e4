/- The closed examples (known) return true; what is put is got: plain laws on lists. Conditions: those that each theorem states. -/
import Derived.Test.YtmeodnpnbgaehaaMapC
namespace Go.Proofs.Ytmeodnpnbgaehaa
open Go.RowKit

theorem known_any (w : World) : Calls Try.prog 7 #[] w fun e w' => e = .returned (.bool true) ∧ Below w.heap.size w w' := by
  go_enter Try.func7, Try.ntmps7
  go_wp2_with fail
  refine (put_yes _ 2 2 [1, 2] _ ((Reads.new w #[.int .i64 1, .int .i64 2] 3 1 2 (by decide) (by decide)).here (by decide)) (by decide)).mono ?_
  rintro e w1 ⟨A1, c1, rfl, hown1, hb1⟩
  have hb2 := ((Below.refl w.heap.size w).alloc (Nat.le_refl _) (.cells #[.int .i64 1, .int .i64 2] 3)).trans (hb1.mono (by simp))
  have hacc : (accM [1, 2] 2)[0]? = some 9 := by decide
  obtain ⟨g, rfl, hbg, hgl, hc, hf⟩ := own_at hown1 (cells_get hacc)
  clear hacc hbg hgl hf hown1 hb1
  go_wp2_with fail
  refine (get_len _ _ _ 1 _ (by decide) (by decide)).mono ?_
  rintro e w' ⟨rfl, rfl⟩
  go_wp2_with fail
  refine (at_any _ _ _ _ [] _ (Reads.nil_ _ _ _)).mono ?_
  rintro e w' ⟨rfl, rfl⟩
  go_wp2_with fail
  go_ret
  exact ⟨rfl, hb2⟩

theorem stOf_le (x : Int) : 0 ≤ stOf x ∧ stOf x ≤ 2 := by
  unfold stOf
  have h : bits .and .i64 x 255 = x % 256 := i64_mask 8 (by decide) x 255 (by decide)
  rw [h, Int.tmod_eq_emod_of_nonneg (by omega)]
  omega
theorem states_right {l : List Int} (h : l.length ≤ 512) : rightM (l.map stOf) = true := by
  simp only [rightM, List.length_map, h, decide_true, Bool.and_true, List.all_map, List.all_eq_true]
  intro x _
  have := stOf_le x
  simp only [Function.comp, st3]
  rcases (by omega : stOf x = 0 ∨ stOf x = 1 ∨ stOf x = 2) with e | e | e <;> rw [e] <;> rfl
theorem byteAt_digit {l : List Int} (h : rightM l = true) {k : Nat} (hk : k < l.length) : byteAt l l.length (k / 4) / 4 ^ (k % 4) % 4 = (l.getD k 0).toNat := by
  have h0 := right_at h (4 * (k / 4))
  have h1 := right_at h (4 * (k / 4) + 1)
  have h2 := right_at h (4 * (k / 4) + 2)
  have h3 := right_at h (4 * (k / 4) + 3)
  have hkk : 4 * (k / 4) + k % 4 = k := Nat.div_add_mod k 4
  have hr : k % 4 < 4 := Nat.mod_lt _ (by decide)
  generalize k / 4 = j at *
  generalize k % 4 = r at *
  subst hkk
  unfold byteAt
  rcases (by omega : r = 0 ∨ r = 1 ∨ r = 2 ∨ r = 3) with rfl | rfl | rfl | rfl
  all_goals
    try simp only [Nat.add_zero] at *
    generalize l.getD (4 * j) 0 = a0 at *
    generalize l.getD (4 * j + 1) 0 = a1 at *
    generalize l.getD (4 * j + 2) 0 = a2 at *
    generalize l.getD (4 * j + 3) 0 = a3 at *
    try simp only [Nat.pow_zero]
    (repeat' split) <;> omega
theorem byteAt_256 {l : List Int} (h : rightM l = true) (k j : Nat) : byteAt l k j < 256 := by
  have h0 := right_at h (4 * j)
  have h1 := right_at h (4 * j + 1)
  have h2 := right_at h (4 * j + 2)
  have h3 := right_at h (4 * j + 3)
  unfold byteAt
  (repeat' split) <;> omega
theorem decOne_eq {x k : Nat} (hx : x < 256) : decOne (x : Int) k = ((x / 4 ^ (k % 4) % 4 : Nat) : Int) := by
  unfold decOne
  have hp : ((2 : Int) ^ (k % 4 * 2)) = ((4 ^ (k % 4) : Nat) : Int) := by rw [← pow_four]; norm_cast
  rw [hp, ← Int.natCast_ediv]
  have hle : x / 4 ^ (k % 4) < 256 := Nat.lt_of_le_of_lt (Nat.div_le_self _ _) hx
  generalize x / 4 ^ (k % 4) = y at *
  have e : bits .and .u8 (y : Int) 3 = ((y &&& 3 : Nat) : Int) := u8_and_nat y 3 hle (by decide)
  rw [e, nat_mask2, IntWalk.wrap64_in _ (by omega)]
theorem dec_acc {l : List Int} (h : rightM l = true) : dec (accM l l.length) l.length = l := by
  apply List.ext_getElem?
  intro i
  by_cases hi : i < l.length
  · have hj : i / 4 < (l.length + 3) / 4 := by omega
    have hx : (accM l l.length).getD (i / 4) 0 = (byteAt l l.length (i / 4) : Int) := by simp [accM, List.getD, hj]
    have hd := byteAt_digit h hi
    have hr := right_at h i
    simp only [dec, List.getElem?_map, List.getElem?_range hi, Option.map_some, hx]
    rw [decOne_eq (byteAt_256 h _ _), hd, List.getElem?_eq_getElem hi]
    have e : l.getD i 0 = l[i] := by simp [List.getD, List.getElem?_eq_getElem hi]
    rw [e] at hr ⊢
    congr 1
    omega
  · rw [List.getElem?_eq_none (by rw [dec_length]; omega), List.getElem?_eq_none (by omega)]
theorem back_ok {l : List Int} {n : Nat} (h : rightM l = true) (hn : l.length = n) : getR (accM l n) n = (l, 0) := by
  subst hn
  refine (getR_yes ?_ ?_).trans ?_
  · rw [dec_acc h]; exact h
  · rw [dec_acc h]; exact beq_iff_eq.2 rfl
  · rw [dec_acc h]
end Go.Proofs.Ytmeodnpnbgaehaa
