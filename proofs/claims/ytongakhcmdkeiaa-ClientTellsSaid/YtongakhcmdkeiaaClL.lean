/- RightClients: the walk. Conditions: those that each theorem states. -/
import Derived.Test.YtongakhcmdkeiaaClK
namespace Go.Proofs.Ytongakhcmdkeiaa
open Go.RowKit

/-- The number of the one ahead of place k, 0 at the first. -/
def lastOf (L : List Cl) : Nat → Int
  | 0 => 0
  | k + 1 => match L[k]? with | some (i, _, _) => i | none => 0

set_option maxRecDepth 20000 in
set_option maxHeartbeats 4000000 in
theorem rright_any (A : Option Addr) (n c : Nat) (L : List Cl) (w : World) (h : ClAt w A n c L) :
    Calls Try.prog 22 #[.slice A n c] w fun e w' => e = .returned (.bool (rightB L)) ∧ Below w.heap.size w w' := by
  have hbig := h.big
  have hlen := cl_length h
  by_cases h4 : 4 < n
  · have e1 : rightB L = false := by simp [rightB, hlen]; omega
    have E1 := Lib.hid e1
    have d1 : decide (4 < n) = true := dec_yes h4
    clear e1 hlen
    go_enter Try.func22, Try.ntmps22
    go_wp2_with fail
    go_ret
    exact ⟨ret_bool E1.out.symm, Below.refl _ _⟩
  have HB : Hid (rightB L = rightFrom 0 L) := Lib.hid (by simp [rightB, hlen]; omega)
  have HL := Lib.hid hlen
  clear hlen
  go_enter Try.func22, Try.ntmps22
  go_wp2_with fail
  go_loopg [3] n (fun gk i wr => ∃ k nq : Nat, k + gk = n ∧ i = .int .i64 (k : Nat) ∧ w.drewN nq = wr ∧ Hid (rightFrom 0 L = rightFrom (lastOf L k) (L.drop k)))
  case atStart => exact ⟨0, 0, by omega, rfl, rfl, Lib.hid rfl⟩
  case round =>
    obtain ⟨k, nq, hk, rfl, hwr, HR⟩ := hrel
    have HK := Lib.hid hk
    have hkn : k ≤ n := by omega
    clear hk
    by_cases hlt : k < n
    · obtain ⟨b, o, ci, cp, cf, rfl, hbb, hx, x0, x1, x2⟩ := cl_at (h.drewN nq) hlt
      have HX := Lib.hid (rightFrom_at (last := lastOf L k) hx)
      have hx' := hx
      have HXX := Lib.hid hx'
      have HWR := Lib.hid hwr
      rw [hwr] at x0 x1 x2
      have b0 : (0 : Int) ≤ (k : Int) := by omega
      have bk : (k : Int) < (n : Int) := by omega
      have NO : mayB ci cp = false ∨ ¬ lastOf L k < ci → Hid (rightB L = false) := fun hh => Lib.hid (by
        rw [HB.out, HR.out, HX.out]
        rcases hh with hh | hh
        · rw [hh]; rfl
        · rw [dec_no hh]; simp)
      have YES : mayB ci cp = true → lastOf L k < ci → Hid (rightFrom 0 L = rightFrom (lastOf L (k + 1)) (L.drop (k + 1))) := fun h1 h2 => Lib.hid (by
        rw [HR.out, HX.out, h1, dec_yes h2]
        simp only [lastOf, HXX.out, Bool.and_self, Bool.true_and])
      have HNO := Lib.hid NO
      have HYES := Lib.hid YES
      clear hx hx' NO YES hwr
      by_cases m1 : ci < 1
      · have E1 := HNO.out (.inl (mayB_no (by omega)))
        have d1 : decide (ci < 1) = true := dec_yes m1
        go_wp2_with fail
        go_quiet (fail)
        go_wp2_with fail
        go_ret
        exact ⟨ret_bool E1.out.symm, by rw [← HWR.out]; repeat (first | with_reducible exact Below.refl _ _ | with_reducible refine below_drewN ?_ _ | with_reducible refine Below.drew ?_)⟩
      by_cases m2 : 1073741824 < ci
      · have E1 := HNO.out (.inl (mayB_no (by omega)))
        have d1 : decide (ci < 1) = false := dec_no m1
        have d2 : decide (1073741824 < ci) = true := dec_yes m2
        go_wp2_with fail
        go_quiet (fail)
        go_wp2_with fail
        go_ret
        exact ⟨ret_bool E1.out.symm, by rw [← HWR.out]; repeat (first | with_reducible exact Below.refl _ _ | with_reducible refine below_drewN ?_ _ | with_reducible refine Below.drew ?_)⟩
      by_cases m3 : cp < 0
      · have E1 := HNO.out (.inl (mayB_no (by omega)))
        have d1 : decide (ci < 1) = false := dec_no m1
        have d2 : decide (1073741824 < ci) = false := dec_no m2
        have d3 : decide (cp < 0) = true := dec_yes m3
        go_wp2_with fail
        go_quiet (fail)
        go_wp2_with fail
        go_ret
        exact ⟨ret_bool E1.out.symm, by rw [← HWR.out]; repeat (first | with_reducible exact Below.refl _ _ | with_reducible refine below_drewN ?_ _ | with_reducible refine Below.drew ?_)⟩
      by_cases m4 : 1099511627776 < cp
      · have E1 := HNO.out (.inl (mayB_no (by omega)))
        have d1 : decide (ci < 1) = false := dec_no m1
        have d2 : decide (1073741824 < ci) = false := dec_no m2
        have d3 : decide (cp < 0) = false := dec_no m3
        have d4 : decide (1099511627776 < cp) = true := dec_yes m4
        go_wp2_with fail
        go_quiet (fail)
        go_wp2_with fail
        go_ret
        exact ⟨ret_bool E1.out.symm, by rw [← HWR.out]; repeat (first | with_reducible exact Below.refl _ _ | with_reducible refine below_drewN ?_ _ | with_reducible refine Below.drew ?_)⟩
      have hm : mayB ci cp = true := mayB_mk (by omega)
      have HM := Lib.hid hm
      clear hm
      have d1 : decide (ci < 1) = false := dec_no m1
      have d2 : decide (1073741824 < ci) = false := dec_no m2
      have d3 : decide (cp < 0) = false := dec_no m3
      have d4 : decide (1099511627776 < cp) = false := dec_no m4
      cases k with
      | zero =>
        have E1 := HYES.out HM.out (by show (0 : Int) < ci; omega)
        simp only [Nat.zero_mul, Nat.add_zero] at x0 x1 x2
        go_wp2_with fail
        go_quiet (fail)
        go_wp2_with fail
        go_roundg (n - 1)
        case measure => have := HK.out; omega
        case rel => exact ⟨1, _, by omega, by go_num, by rw [← HWR.out, World.drewN_drewN], E1⟩
      | succ j =>
        obtain ⟨b', o', li, lp, lf, e, _, hxl, y0, y1, y2⟩ := cl_at (h.drewN nq) (show j < n by omega)
        cases e
        rw [HWR.out] at y0
        have hla : lastOf L (j + 1) = li := by simp only [lastOf, hxl]
        have HLA := Lib.hid hla
        have z1 : IntKind.i64.wrap ((j : Int) + 1 - 1) = (j : Int) := by rw [Int.add_sub_cancel]; exact IntWalk.i64_in _ (by omega)
        have z2 : IntKind.i64.wrap (j : Int) = (j : Int) := IntWalk.i64_in _ (by omega)
        have z3 : (0 : Int) < (j : Int) + 1 := by omega
        have z4 : (0 : Int) ≤ (j : Int) := by omega
        have z5 : (j : Int) < (n : Int) := by omega
        clear hxl hla
        by_cases hl : ci ≤ li
        · have E1 := HNO.out (.inr (by rw [HLA.out]; omega))
          have d5 : decide (ci ≤ li) = true := dec_yes hl
          go_wp2_with fail
          go_quiet (fail)
          go_wp2_with fail
          go_ret
          exact ⟨ret_bool E1.out.symm, by rw [← HWR.out]; repeat (first | with_reducible exact Below.refl _ _ | with_reducible refine below_drewN ?_ _ | with_reducible refine Below.drew ?_)⟩
        · have E1 := HYES.out HM.out (by rw [HLA.out]; omega)
          have d5 : decide (ci ≤ li) = false := dec_no hl
          go_wp2_with fail
          go_quiet (fail)
          go_wp2_with fail
          go_roundg (n - (j + 2))
          case measure => have := HK.out; omega
          case rel => exact ⟨j + 2, _, by omega, by go_num, by rw [← HWR.out, World.drewN_drewN], E1⟩
    · obtain rfl : k = n := by omega
      have e1 : rightB L = true := by
        rw [HB.out, HR.out, List.drop_of_length_le (by rw [HL.out]; exact Nat.le_refl _)]; rfl
      have E1 := Lib.hid e1
      clear e1
      go_wp2_with fail
      go_ret
      exact ⟨ret_bool E1.out.symm, by rw [← hwr]; exact below_drewN (Below.refl _ _) _⟩
end Go.Proofs.Ytongakhcmdkeiaa
