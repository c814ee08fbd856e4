/- GetVar: the walks. Conditions: those that each theorem states. -/
import Derived.Test.YtongakhcmdkeiaaClS
namespace Go.Proofs.Ytongakhcmdkeiaa
open Go.RowKit

def gvR (l : List Int) (at_ : Nat) : Option (Nat × Nat) := (getS 9 0 0 (l.drop at_)).map fun x => (x.1, at_ + x.2)
def gvV : Option (Nat × Nat) → Array Value
  | some (v, b) => #[.int .i64 (v : Nat), .int .i64 (b : Nat), .bool true]
  | none => #[.int .i64 0, .int .i64 0, .bool false]
theorem getS_step {l : List Int} {j y g i u : Nat} (h : l[j]? = some (y : Int)) :
    getS (g + 1) i u (l.drop j) = if (128 : Int) ≤ (y : Int) then getS g (i + 1) (2 ^ (7 * i) * (y % 128) + u) (l.drop (j + 1)) else if (y : Int) = 0 ∧ 0 < i then none else some (2 ^ (7 * i) * (y % 128) + u, i + 1) := by
  obtain ⟨hk, e⟩ := List.getElem?_eq_some_iff.1 h
  rw [List.drop_eq_getElem_cons hk, e]
  have e2 : (((y : Nat) : Int) % 128).toNat = y % 128 := by omega
  rw [getS.eq_def]
  simp only [e2]
theorem seven_lt {k z u : Nat} (hz : z < 128) (hu : u < 2 ^ (7 * k)) : 2 ^ (7 * k) * z + u < 2 ^ (7 * (k + 1)) := by
  have e2 : 2 ^ (7 * (k + 1)) = 2 ^ (7 * k) * 128 := by rw [Nat.mul_add, Nat.pow_add]
  rw [e2]
  have := Nat.mul_le_mul_left (2 ^ (7 * k)) (show z + 1 ≤ 128 by omega)
  rw [Nat.mul_add] at this
  omega

set_option maxRecDepth 20000 in
set_option maxHeartbeats 2000000 in
theorem getvar_any (A : Option Addr) (n c at_ : Nat) (l : List Int) (w : World) (h : Reads w w.heap.size 1 A n c (cells .u8 l)) (hby : ∀ x ∈ l, 0 ≤ x ∧ x < 256) (hn : n ≤ 100000) (hat : at_ ≤ 100000) :
    Calls Try.prog 41 #[.slice A n c, .int .i64 (at_ : Nat)] w fun e w' => e = .returned (.tuple (gvV (gvR l at_))) ∧ w = w' := by
  have hlen := h.length
  have HL := Lib.hid hlen
  have HBY := Lib.hid hby
  have ha0 : ¬ ((at_ : Int) < 0) := by omega
  clear hlen hby
  go_enter Try.func41, Try.ntmps41
  go_wp2_with fail
  go_loopg [7, 8, 9] 9 (fun gk uo i _ wr => ∃ (k u : Nat), k + gk = 9 ∧ i = .int .i64 (k : Nat) ∧ uo = .int .u64 (u : Nat) ∧ w = wr ∧ Hid (u < 2 ^ (7 * k)) ∧ Hid (getS 9 0 0 (l.drop at_) = getS gk k u (l.drop (at_ + k))))
  case atStart => exact ⟨0, 0, by omega, rfl, rfl, rfl, Lib.hid (by decide), Lib.hid rfl⟩
  case round =>
    obtain ⟨k, u, hk, rfl, rfl, rfl, HU, HE⟩ := hrel
    have hk9 : k ≤ 9 := by omega
    by_cases h9 : k < 9
    · obtain ⟨g, hg⟩ : ∃ g, gk = g + 1 := ⟨gk - 1, by omega⟩
      have HG := Lib.hid hg
      have HK := Lib.hid hk
      clear hg hk
      have w2 : IntKind.i64.wrap ((at_ : Int) + (k : Int)) = ((at_ + k : Nat) : Int) := by rw [IntWalk.i64_in _ (by omega)]; rfl
      have w2' : IntKind.i64.wrap ((at_ : Int) + (k : Int)) = (at_ : Int) + (k : Int) := IntWalk.i64_in _ (by omega)
      have w1 : IntKind.i64.wrap ((n : Int) - (k : Int)) = (n : Int) - (k : Int) := IntWalk.i64_in _ (by omega)
      by_cases hlt : at_ + k < n
      · obtain ⟨b, o, x, rfl, hbb, hx, hc⟩ := h.at_ hlt
        have hxb := HBY.out x (List.mem_of_getElem? hx)
        obtain ⟨y, rfl⟩ : ∃ y : Nat, x = (y : Int) := ⟨x.toNat, by omega⟩
        have hy : y < 256 := by omega
        obtain ⟨z, hz⟩ : ∃ z : Nat, z = y % 128 := ⟨_, rfl⟩
        have hz1 : z < 128 := by omega
        have hst := getS_step hx (g := g) (i := k) (u := u)
        rw [← hz] at hst
        obtain ⟨t, ht⟩ : ∃ t : Nat, t = 2 ^ (7 * k) * z := ⟨_, rfl⟩
        obtain ⟨v, hv⟩ : ∃ v : Nat, v = t + u := ⟨_, rfl⟩
        have hvb : v < 2 ^ (7 * (k + 1)) := by rw [hv, ht]; exact seven_lt hz1 HU.out
        have hv63 : v < 2 ^ 63 := Nat.lt_of_lt_of_le hvb (Nat.pow_le_pow_right (by decide) (by omega))
        have w5 : IntKind.u64.wrap ((z : Int) * 2 ^ (7 * k)) = (t : Int) := by
          have e : (z : Int) * 2 ^ (7 * k) = (t : Int) := by rw [ht, Int.natCast_mul, Int.natCast_pow, Int.mul_comm]; rfl
          rw [e]
          rw [IntKind.wrap_u64]; omega
        have hwm : ∀ m : Nat, m = 2 ^ (7 * k) * z + u → IntKind.u64.wrap (m : Int) = (m : Int) := fun m hm => by
          have : m < 2 ^ 63 := by rw [hm, ← ht, ← hv]; exact hv63
          rw [IntKind.wrap_u64]; omega
        have w6 : bits .or .u64 (u : Int) (t : Int) = (v : Int) := by
          rw [hv, ht]
          exact or_sum (N := 64) rfl HU.out (by rw [← ht, ← hv]; omega) hwm
        rw [← ht, ← hv] at hst
        have w7 : IntKind.i64.wrap (v : Int) = (v : Int) := IntWalk.i64_in _ (by omega)
        have w8 : IntKind.i64.wrap ((at_ : Int) + (k : Int) + 1) = (at_ : Int) + (k : Int) + 1 := IntWalk.i64_in _ (by omega)
        have d1 : (at_ : Int) < (n : Int) - (k : Int) := by omega
        have d2 : (at_ : Int) + (k : Int) < (n : Int) := by omega
        have b0 : (0 : Int) ≤ ((at_ + k : Nat) : Int) := by omega
        have b1 : ((at_ + k : Nat) : Int) < (n : Int) := by omega
        have e1 := u8_and127 hy
        rw [← hz] at e1
        have w4 : IntKind.u64.wrap (z : Int) = (z : Int) := by rw [IntKind.wrap_u64]; omega
        have w3 : IntKind.i64.wrap (7 * (k : Int)) = 7 * (k : Int) := IntWalk.i64_in _ (by omega)
        have HST : Hid (getS 9 0 0 (l.drop at_) = if (128 : Int) ≤ (y : Int) then getS g (k + 1) v (l.drop (at_ + k + 1)) else if (y : Int) = 0 ∧ 0 < k then none else some (v, k + 1)) := Lib.hid (by rw [HE.out, HG.out]; exact hst)
        have HVB := Lib.hid hvb
        clear hx hz hxb hst ht hv hvb hv63 HE hwm
        by_cases h128 : 128 ≤ y
        · have E : Hid (getS 9 0 0 (l.drop at_) = getS g (k + 1) v (l.drop (at_ + (k + 1)))) := Lib.hid (by rw [HST.out, if_pos (by omega)]; rfl)
          clear HST
          go_wp2_with fail
          go_roundg g
          case measure => have := HG.out; omega
          case rel => exact ⟨k + 1, v, by have := HK.out; have := HG.out; omega, by go_num, rfl, rfl, HVB, E⟩
        · by_cases hzz : y = 0 ∧ 0 < k
          · have E : Hid (gvR l at_ = none) := Lib.hid (by unfold gvR; rw [HST.out, if_neg (by omega), if_pos (by omega)]; rfl)
            obtain ⟨rfl, hk0⟩ := hzz
            clear HST h128
            go_wp2_with fail
            refine bodyPost_ret (v := .tuple #[.int .i64 0, .int .i64 0, .bool false]) (by simp [results, Try.results41, go_sem]) rfl ?_
            rw [E.out]
            exact ⟨rfl, rfl⟩
          · have E : Hid (gvR l at_ = some (v, at_ + (k + 1))) := Lib.hid (by unfold gvR; rw [HST.out, if_neg (by omega), if_neg (by omega)]; rfl)
            have h128i : ¬ (128 : Int) ≤ (y : Int) := by omega
            have h128j : (y : Int) < 128 := by omega
            clear HST h128
            rcases Nat.eq_zero_or_pos y with hy0 | hy0
            · have hy1 : ((y : Int) == 0) = true := by simp; omega
              have hk1 : ¬ (0 : Int) < (k : Int) := by omega
              have hk2 : ¬ 0 < k := by omega
              clear hzz hy0
              go_wp2_with fail
              refine bodyPost_ret (v := .tuple #[.int .i64 (v : Nat), .int .i64 ((at_ : Int) + (k : Int) + 1), .bool true]) (by simp [results, Try.results41, go_sem]) rfl ?_
              rw [E.out]
              exact ⟨by simp [gvV, Int.add_assoc], rfl⟩
            · have hy1 : ((y : Int) == 0) = false := by simp; omega
              clear hzz
              go_wp2_with fail
              refine bodyPost_ret (v := .tuple #[.int .i64 (v : Nat), .int .i64 ((at_ : Int) + (k : Int) + 1), .bool true]) (by simp [results, Try.results41, go_sem]) rfl ?_
              rw [E.out]
              exact ⟨by simp [gvV, Int.add_assoc], rfl⟩
      · have E : Hid (gvR l at_ = none) := Lib.hid (by
          unfold gvR
          rw [HE.out, HG.out, List.drop_of_length_le (by rw [HL.out]; omega)]
          rfl)
        have d1 : ¬ (at_ : Int) < (n : Int) - (k : Int) := by omega
        have d2 : ¬ (at_ : Int) + (k : Int) < (n : Int) := by omega
        clear HE
        go_wp2_with fail
        refine bodyPost_ret (v := .tuple #[.int .i64 0, .int .i64 0, .bool false]) (by simp [results, Try.results41, go_sem]) rfl ?_
        rw [E.out]
        exact ⟨rfl, rfl⟩
    · obtain rfl : k = 9 := by omega
      obtain rfl : gk = 0 := by omega
      have E : Hid (gvR l at_ = none) := Lib.hid (by unfold gvR; rw [HE.out]; rfl)
      clear HE
      go_wp2_with fail
      refine bodyPost_ret (v := .tuple #[.int .i64 0, .int .i64 0, .bool false]) (by simp [results, Try.results41, go_sem]) rfl ?_
      rw [E.out]
      exact ⟨rfl, rfl⟩
end Go.Proofs.Ytongakhcmdkeiaa
