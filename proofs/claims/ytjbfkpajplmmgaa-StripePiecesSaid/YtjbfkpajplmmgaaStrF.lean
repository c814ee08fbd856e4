/- Powers of two, Held, the reference's Place: the walks. -/
import Derived.Test.YtjbfkpajplmmgaaStrA
import Derived.Test.YtjbfkpajplmmgaaStrQ
import Derived.Deep.DeepCutAuto
import Derived.Deep.LoopGhost
namespace Go.Proofs.Ytjbfkpajplmmgaa
open Go.RowKit

theorem pow_any (u : Int) (U P : Nat) (hu : u = U) (h : U ≤ 6) (hP : 2 ^ U = P) (w : World) : Calls Try.prog 23 #[.int .i64 u] w fun e w' => e = .returned (.int .i64 (P : Nat)) ∧ w = w' := by
  subst hu
  have HP := Lib.hid hP
  clear hP
  go_enter Try.func23, Try.ntmps23
  go_wp2_with fail
  go_loop [3, 4] (fun p i => ∃ k R : Nat, k ≤ U ∧ i = .int .i64 (k : Nat) ∧ p = .int .i64 (R : Nat) ∧ Hid (2 ^ k = R) ∧ R ≤ 64) (fun _ i => U - (intOf i).toNat)
  case atStart => exact ⟨0, 1, Nat.zero_le _, rfl, rfl, Lib.hid rfl, by omega⟩
  case round =>
    obtain ⟨k, R, hk, rfl, rfl, HR, hR⟩ := hrel
    by_cases hlt : k < U
    · go_wp2_with fail
      go_round
      case rel =>
        refine ⟨k + 1, R * 2, by omega, by go_num, by go_num, Lib.hid (by rw [Nat.pow_succ, HR.out]), ?_⟩
        have : 2 ^ (k + 1) ≤ 2 ^ 6 := Nat.pow_le_pow_right (by decide) (by omega)
        rw [Nat.pow_succ, HR.out] at this
        omega
      case measure => simp [intOf]; omega
    · obtain rfl : k = U := by omega
      go_wp2_with fail
      go_ret
      refine ⟨ret_int ?_, rfl⟩
      have h1 := HR.out
      have h2 := HP.out
      omega

def heldN (n : Int) : Nat := if n < 0 then 0 else if 512 < n then 512 else n.toNat
theorem heldN_le (n : Int) : heldN n ≤ 512 := by unfold heldN; split <;> (try split) <;> omega
theorem held_any (n : Int) (w : World) : Calls Try.prog 24 #[.int .i64 n, .int .i64 0, .int .i64 512] w fun e w' => e = .returned (.int .i64 (heldN n : Nat)) ∧ w = w' := by
  unfold heldN
  by_cases h1 : n < 0
  · rw [if_pos h1]
    go_enter Try.func24, Try.ntmps24
    go_wp2_with fail
    go_ret
    exact ⟨rfl, rfl⟩
  · rw [if_neg h1]
    by_cases h2 : 512 < n
    · rw [if_pos h2]
      go_enter Try.func24, Try.ntmps24
      go_wp2_with fail
      go_ret
      exact ⟨rfl, rfl⟩
    · rw [if_neg h2]
      obtain ⟨N, rfl⟩ : ∃ N : Nat, n = N := ⟨n.toNat, by omega⟩
      go_enter Try.func24, Try.ntmps24
      go_wp2_with fail
      go_ret
      exact ⟨rfl, rfl⟩

end Go.Proofs.Ytjbfkpajplmmgaa
