/- SamePlaces: two rows of places that hold the same. -/
import Derived.Test.YtidcgbegpmihaaaRingO
import Derived.BigQuiet
namespace Go.Proofs.Ytidcgbegpmihaaa
open Go.RowKit

set_option maxHeartbeats 1000000 in
theorem same_any (A1 A2 : Option Addr) (n c1 c2 : Nat) (ps : List (Int × Int)) (w : World) (h1 : Reads w w.heap.size 2 A1 n c1 (pcells ps)) (h2 : Reads w w.heap.size 2 A2 n c2 (pcells ps)) :
    Calls Try.prog 17 #[.slice A1 n c1, .slice A2 n c2] w fun e w' => e = .returned (.bool true) ∧ Below w.heap.size w w' := by
  have hlen : ps.length = n := by have := h1.1; rw [pcells_length] at this; omega
  have hbig := h1.big
  have HL := Lib.hid hlen
  clear hlen
  have dn : ((n : Int) != (n : Int)) = false := by simp
  go_enter Try.func17, Try.ntmps17
  go_wp2_with fail
  go_loopg [5] n (fun gk i wr => ∃ (k nq : Nat), k + gk = n ∧ i = .int .i64 (k : Nat) ∧ w.drewN nq = wr)
  case atStart => exact ⟨0, 0, by omega, rfl, rfl⟩
  case round =>
    obtain ⟨k, nq, hk, rfl, hwr⟩ := hrel
    have HK := Lib.hid hk
    have hkn : k ≤ n := by omega
    clear hk
    by_cases hlt : k < n
    · obtain ⟨⟨px, py⟩, hp⟩ : ∃ x, ps[k]? = some x := ⟨_, List.getElem?_eq_getElem (by rw [HL.out]; exact hlt)⟩
      obtain ⟨p0, p1⟩ := pcells_get hp
      obtain ⟨b1, o1, rfl, hb1, hc1⟩ := (h1.drewN nq).2.2.2.2 (by omega)
      obtain ⟨b2, o2, rfl, hb2, hc2⟩ := (h2.drewN nq).2.2.2.2 (by omega)
      have x0 := hc1 _ _ p0
      have x1 := hc1 _ _ p1
      have y0 := hc2 _ _ p0
      have y1 := hc2 _ _ p1
      rw [← Nat.add_assoc] at x1 y1
      have HWR := Lib.hid hwr
      rw [hwr] at x0 x1 y0 y1
      have b0 : (0 : Int) ≤ (k : Int) := by omega
      have bk : (k : Int) < (n : Int) := by omega
      clear hwr hc1 hc2 p0 p1 hp
      go_wp2_with fail
      go_quiet (fail)
      go_wp2_with fail
      go_roundg (n - (k + 1))
      case measure => have := HK.out; omega
      case rel => exact ⟨k + 1, _, by omega, by go_num, by rw [← HWR.out, World.drewN_drewN]⟩
    · obtain rfl : k = n := by omega
      go_wp2_with fail
      go_ret
      exact ⟨rfl, by rw [← hwr]; exact below_drewN (Below.refl _ _) _⟩
end Go.Proofs.Ytidcgbegpmihaaa
