/- The document's GetVar: the walk. Conditions: those that each theorem states. -/
import Derived.Test.YtongakhcmdkeiaaClAa
namespace Go.Proofs.Ytongakhcmdkeiaa
open Go.RowKit

/-- Facts of one step, stated apart. -/
theorem seven_step {k z u : Nat} (hk : k < 9) (hu : u < 2 ^ (7 * k)) (hz : z < 128) :
    ∃ t v : Nat, v = t + u ∧ t = 2 ^ (7 * k) * z ∧ v < 2 ^ (7 * (k + 1)) ∧ wrap64 ((z : Int) * 2 ^ (7 * k)) = (t : Int) ∧ bits .or .i64 (u : Int) (t : Int) = (v : Int) ∧ IntKind.i64.wrap (v : Int) = (v : Int) := by
  have h1 := seven_lt hz hu
  have h2 : 2 ^ (7 * (k + 1)) ≤ 2 ^ 63 := Nat.pow_le_pow_right (by decide) (by omega)
  have e63 : (2 : Nat) ^ 63 = 9223372036854775808 := by decide
  have h3 : 2 ^ (7 * k) * z + u < 9223372036854775808 := by rw [← e63]; exact Nat.lt_of_lt_of_le h1 h2
  clear h2
  have e : (z : Int) * 2 ^ (7 * k) = ((2 ^ (7 * k) * z : Nat) : Int) := by rw [Int.natCast_mul, Int.natCast_pow, Int.mul_comm]; rfl
  refine ⟨2 ^ (7 * k) * z, 2 ^ (7 * k) * z + u, rfl, rfl, h1, ?_, ?_, ?_⟩
  · rw [e, ← IntWalk.i64_left]
    generalize 2 ^ (7 * k) * z = T at *
    exact IntWalk.i64_in _ (by omega)
  · refine or_sum (N := 64) rfl hu (Nat.lt_trans h3 (by decide)) (fun m hm => ?_)
    rw [← hm] at h3
    exact IntWalk.i64_in _ (by omega)
  · generalize 2 ^ (7 * k) * z + u = V at *
    exact IntWalk.i64_in _ (by omega)

set_option maxRecDepth 20000 in
set_option maxHeartbeats 2000000 in
theorem rgetvar_any (A : Option Addr) (n c at_ : Nat) (l : List Int) (w : World) (h : Reads w w.heap.size 1 A n c (cells .u8 l)) (hby : ∀ x ∈ l, 0 ≤ x ∧ x < 256) (hn : n ≤ 100000) (hat : at_ ≤ n) :
    Calls Try.prog 33 #[.slice A n c, .int .i64 (at_ : Nat)] w fun e w' => e = .returned (.tuple (gvV (gvR l at_))) ∧ w = w' := by
  have hlen := h.length
  have HL := Lib.hid hlen
  have HBY := Lib.hid hby
  have ha0 : ¬ ((at_ : Int) < 0) := by omega
  have ha1 : ¬ ((n : Int) < (at_ : Int)) := by omega
  clear hlen hby
  go_enter Try.func33, Try.ntmps33
  go_wp2_with fail
  go_loopg [7, 8, 9] 9 (fun gk uo i _ wr => ∃ (k u : Nat), k + gk = 9 ∧ i = .int .i64 (k : Nat) ∧ uo = .int .i64 (u : Nat) ∧ w = wr ∧ Hid (u < 2 ^ (7 * k)) ∧ Hid (getS 9 0 0 (l.drop at_) = getS gk k u (l.drop (at_ + k))))
  case atStart => exact ⟨0, 0, by omega, rfl, rfl, rfl, Lib.hid (by decide), Lib.hid rfl⟩
  case round =>
    obtain ⟨k, u, hk, rfl, rfl, rfl, HU, HE⟩ := hrel
    have hk9 : k ≤ 9 := by omega
    by_cases h9 : k < 9
    · obtain ⟨g, hg⟩ : ∃ g, gk = g + 1 := ⟨gk - 1, by omega⟩
      have HG := Lib.hid hg
      have HK := Lib.hid hk
      clear hg hk
      have w2 : IntKind.i64.wrap ((at_ : Int) + (k : Int)) = ((at_ + k : Nat) : Int) := by rw [IntWalk.i64_in _ (by omega)]; rfl
      have w2' : IntKind.i64.wrap ((at_ : Int) + (k : Int)) = (at_ : Int) + (k : Int) := IntWalk.i64_in _ (by omega)
      have w1 : IntKind.i64.wrap ((n : Int) - (k : Int)) = (n : Int) - (k : Int) := IntWalk.i64_in _ (by omega)
      by_cases hlt : at_ + k < n
      · obtain ⟨b, o, x, rfl, hbb, hx, hc⟩ := h.at_ hlt
        have hxb := HBY.out x (List.mem_of_getElem? hx)
        obtain ⟨y, rfl⟩ : ∃ y : Nat, x = (y : Int) := ⟨x.toNat, by omega⟩
        have hy : y < 256 := by omega
        obtain ⟨z, hz⟩ : ∃ z : Nat, z = y % 128 := ⟨_, rfl⟩
        have hz1 : z < 128 := by omega
        have hst := getS_step hx (g := g) (i := k) (u := u)
        rw [← hz] at hst
        obtain ⟨t, v, hv, ht, hvb, w5', w6, w7⟩ := seven_step h9 HU.out hz1
        rw [← ht, ← hv] at hst
        have w8 : IntKind.i64.wrap ((at_ : Int) + (k : Int) + 1) = (at_ : Int) + (k : Int) + 1 := IntWalk.i64_in _ (by omega)
        have d1 : (at_ : Int) < (n : Int) - (k : Int) := by omega
        have d2 : (at_ : Int) + (k : Int) < (n : Int) := by omega
        have b0 : (0 : Int) ≤ ((at_ + k : Nat) : Int) := by omega
        have b1 : ((at_ + k : Nat) : Int) < (n : Int) := by omega
        have e1 : bits .and .i64 (y : Int) 127 = (z : Int) := by rw [i64_mask 7 (by decide) (y : Int) 127 (by decide), hz]; rfl
        have w4 : IntKind.i64.wrap (y : Int) = (y : Int) := IntWalk.i64_in _ (by omega)
        have w9 : IntKind.u64.wrap (7 * (k : Int)) = 7 * (k : Int) := by rw [IntKind.wrap_u64]; omega
        have w3 : IntKind.i64.wrap (7 * (k : Int)) = 7 * (k : Int) := IntWalk.i64_in _ (by omega)
        have HST : Hid (getS 9 0 0 (l.drop at_) = if (128 : Int) ≤ (y : Int) then getS g (k + 1) v (l.drop (at_ + k + 1)) else if (y : Int) = 0 ∧ 0 < k then none else some (v, k + 1)) := Lib.hid (by rw [HE.out, HG.out]; exact hst)
        have HVB := Lib.hid hvb
        clear hx hz hxb hst ht hv hvb HE
        by_cases h128 : 128 ≤ y
        · have E : Hid (getS 9 0 0 (l.drop at_) = getS g (k + 1) v (l.drop (at_ + (k + 1)))) := Lib.hid (by rw [HST.out, if_pos (by omega)]; rfl)
          clear HST
          go_wp2_with fail
          go_roundg g
          case measure => have := HG.out; omega
          case rel => exact ⟨k + 1, v, by have := HK.out; have := HG.out; omega, by go_num, rfl, rfl, HVB, E⟩
        · by_cases hzz : y = 0 ∧ 0 < k
          · have E : Hid (gvR l at_ = none) := Lib.hid (by unfold gvR; rw [HST.out, if_neg (by omega), if_pos (by omega)]; rfl)
            obtain ⟨rfl, hk0⟩ := hzz
            clear HST h128
            go_wp2_with fail
            refine bodyPost_ret (v := .tuple #[.int .i64 0, .int .i64 0, .bool false]) (by simp [results, Try.results33, go_sem]) rfl ?_
            rw [E.out]
            exact ⟨rfl, rfl⟩
          · have E : Hid (gvR l at_ = some (v, at_ + (k + 1))) := Lib.hid (by unfold gvR; rw [HST.out, if_neg (by omega), if_neg (by omega)]; rfl)
            have h128i : ¬ (128 : Int) ≤ (y : Int) := by omega
            have h128j : (y : Int) < 128 := by omega
            clear HST h128
            rcases Nat.eq_zero_or_pos y with hy0 | hy0
            · have hy1 : ((y : Int) == 0) = true := by simp; omega
              have hk1 : ¬ (0 : Int) < (k : Int) := by omega
              have hk2 : ¬ 0 < k := by omega
              clear hzz hy0
              go_wp2_with fail
              refine bodyPost_ret (v := .tuple #[.int .i64 (v : Nat), .int .i64 ((at_ : Int) + (k : Int) + 1), .bool true]) (by simp [results, Try.results33, go_sem]) rfl ?_
              rw [E.out]
              exact ⟨by simp [gvV, Int.add_assoc], rfl⟩
            · have hy1 : ((y : Int) == 0) = false := by simp; omega
              clear hzz
              go_wp2_with fail
              refine bodyPost_ret (v := .tuple #[.int .i64 (v : Nat), .int .i64 ((at_ : Int) + (k : Int) + 1), .bool true]) (by simp [results, Try.results33, go_sem]) rfl ?_
              rw [E.out]
              exact ⟨by simp [gvV, Int.add_assoc], rfl⟩
      · have E : Hid (gvR l at_ = none) := Lib.hid (by
          unfold gvR
          rw [HE.out, HG.out, List.drop_of_length_le (by rw [HL.out]; omega)]
          rfl)
        have d1 : ¬ (at_ : Int) < (n : Int) - (k : Int) := by omega
        have d2 : ¬ (at_ : Int) + (k : Int) < (n : Int) := by omega
        clear HE
        go_wp2_with fail
        refine bodyPost_ret (v := .tuple #[.int .i64 0, .int .i64 0, .bool false]) (by simp [results, Try.results33, go_sem]) rfl ?_
        rw [E.out]
        exact ⟨rfl, rfl⟩
    · obtain rfl : k = 9 := by omega
      obtain rfl : gk = 0 := by omega
      have E : Hid (gvR l at_ = none) := Lib.hid (by unfold gvR; rw [HE.out]; rfl)
      clear HE
      go_wp2_with fail
      refine bodyPost_ret (v := .tuple #[.int .i64 0, .int .i64 0, .bool false]) (by simp [results, Try.results33, go_sem]) rfl ?_
      rw [E.out]
      exact ⟨rfl, rfl⟩

end Go.Proofs.Ytongakhcmdkeiaa
