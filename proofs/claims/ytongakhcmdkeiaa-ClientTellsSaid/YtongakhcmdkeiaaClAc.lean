/- The document's PutClients: the walk. Printed by gen_rput.py. Conditions: those that each theorem states. -/
import Derived.Test.YtongakhcmdkeiaaClAb
import Derived.Test.YtongakhcmdkeiaaClL
import Derived.Deep.RegionHeld3
import Derived.Deep.RegionWith
namespace Go.Proofs.Ytongakhcmdkeiaa
open Go.RowKit

set_option maxRecDepth 20000 in
set_option maxHeartbeats 4000000 in
theorem rput_any (A : Option Addr) (n c : Nat) (L : List Cl) (w : World) (h : ClAt w A n c L) :
    Calls Try.prog 14 #[.slice A n c] w fun e w' => PutRes w (if rightB L then some (putM L) else none) e w' := by
  have hbig := h.big
  have hlen := cl_length h
  cases hr : rightB L
  · clear hlen
    go_enter Try.func14, Try.ntmps14
    go_wp2_with fail
    refine (rright_any _ _ _ L _ h).mono ?_
    rintro e w1 ⟨rfl, hb1⟩
    rw [hr]
    go_wp2_with fail
    refine bodyPost_ret (v := .tuple #[.slice none 0 0, .int .i64 1]) (by simp [results, Try.results14, go_sem]) rfl ?_
    exact ⟨rfl, hb1⟩
  have hn : n ≤ 4 := by have := rightB_len hr; omega
  have HR := Lib.hid hr
  have HL := Lib.hid hlen
  clear hr hlen
  go_enter Try.func14, Try.ntmps14
  go_wp2_with fail
  refine (rright_any _ _ _ L _ h).mono ?_
  rintro e w1 ⟨rfl, hb1⟩
  rw [HR.out]
  go_wp2_with fail
  refine (rvar_any none 0 0 n [] _ (Reads.nil_ _ _ _) (by omega) (by omega)).mono ?_
  rintro e w2 ⟨A2, c2, q2, rfl, hown2, hb2⟩
  have hb12 := hb1.trans (hb2.mono hb1.size)
  have hq2 := own_q (q := 0) rfl hown2
  go_wp2_with fail
  go_loopg [4, 5] n (fun gk s i wr => ∃ (k q : Nat) (A' : Option Addr) (c' : Nat), k + gk = n ∧ i = .int .i64 (k : Nat) ∧ s = .slice A' q c' ∧ wr.ownsRow w.heap.size 5 1 (.slice A' q c') q (cells .u8 (vl n ++ rowsB (L.take k))) ∧ Below w.heap.size w wr ∧ q ≤ 9 + 27 * k)
  case atStart => exact ⟨0, q2, A2, c2, by omega, rfl, rfl, (by have := own_more hown2 hb1.size; simpa [rowsB] using this), hb12, by omega⟩
  case round =>
    obtain ⟨k, q, A', c', hk, rfl, rfl, hown, hb, hq⟩ := hrel
    have HK := Lib.hid hk
    have hkn : k ≤ n := by omega
    clear hk hown2 hq2
    by_cases hlt : k < n
    · obtain ⟨b, o, ci, cp, cf, rfl, hbb, hx, x0, x1, x2⟩ := cl_at (h.below hb) hlt
      have hmay := mayB_is (rf_may (rightB_from HR.out) hx)
      obtain ⟨ni, rfl⟩ : ∃ ni : Nat, ci = (ni : Int) := ⟨ci.toNat, by omega⟩
      obtain ⟨np, rfl⟩ : ∃ np : Nat, cp = (np : Int) := ⟨cp.toNat, by omega⟩
      have hsn := rowsB_snoc hx
      have HS := Lib.hid hsn
      have hi63 : ni < 2 ^ 63 := by omega
      have hp63 : np < 2 ^ 63 := by omega
      have HI := Lib.hid hi63
      have HP := Lib.hid hp63
      have b0 : (0 : Int) ≤ (k : Int) := by omega
      have bk : (k : Int) < (n : Int) := by omega
      have hl0 := own_length hown
      have HL0 := Lib.hid hl0
      have hrd := Reads.of_own hown
      have HRD := Lib.hid hrd
      have hsz := hb.size
      have hbw : b < wr.heap.size := by omega
      have ks : ∀ W' : World, Below wr.heap.size wr W' → (W'.cell? ⟨b, o + k * 3, none⟩ = some (.int .i64 ni) ∧ W'.cell? ⟨b, o + k * 3 + 1, none⟩ = some (.int .i64 np) ∧ W'.cell? ⟨b, o + k * 3 + 2, none⟩ = some (.bool cf)) := fun W' hb => ⟨(hb.cell (p := ⟨b, o + k * 3, none⟩) hbw).trans x0, (hb.cell (p := ⟨b, o + k * 3 + 1, none⟩) hbw).trans x1, (hb.cell (p := ⟨b, o + k * 3 + 2, none⟩) hbw).trans x2⟩
      have KS := Lib.hid ks
      have HBB := Lib.hid hb
      clear hx hsn hi63 hp63 hmay hl0 hrd hown ks hb x0 x1 x2 h hb1 hb2 hb12
      go_wp2_with fail
      go_region_held3 (fun W' => W'.cell? ⟨b, o + k * 3, none⟩ = some (.int .i64 ni) ∧ W'.cell? ⟨b, o + k * 3 + 1, none⟩ = some (.int .i64 np) ∧ W'.cell? ⟨b, o + k * 3 + 2, none⟩ = some (.bool cf))
        (exact KS.out _ (by repeat (first | with_reducible exact Below.refl _ _ | with_reducible assumption | with_reducible refine Below.drew ?_ | with_reducible refine below_drewN ?_ _ | with_reducible refine Below.setCell ?_ (by first | omega | (simp <;> omega)) _ | with_reducible refine Below.alloc ?_ (by first | omega | (simp <;> omega)) _)))
        (first
          | (go_at_call_of 31 (Value.slice A' q c'); refine (rvar_any A' q c' ni _ _ (HRD.out.next (by repeat (first | with_reducible exact Below.refl _ _ | with_reducible assumption | with_reducible refine Below.drew ?_ | with_reducible refine below_drewN ?_ _ | with_reducible refine Below.setCell ?_ (by first | omega | (simp <;> omega)) _ | with_reducible refine Below.alloc ?_ (by first | omega | (simp <;> omega)) _))) (by omega) HI.out).mono ?_; rintro e w3 ⟨A3, c3, q3, rfl, hown3, hb3⟩; have hq3 := (own_q HL0.out hown3).1; have hl3 := (own_q HL0.out hown3).2; have hbz3 := below_next (v := wr) (by repeat (first | with_reducible exact Below.refl _ _ | with_reducible assumption | with_reducible refine Below.drew ?_ | with_reducible refine below_drewN ?_ _ | with_reducible refine Below.setCell ?_ (by first | omega | (simp <;> omega)) _ | with_reducible refine Below.alloc ?_ (by first | omega | (simp <;> omega)) _)) hb3; have hsz3 := hbz3.size; have rd3 := Reads.of_own hown3; clear hb3)
          | (go_at_call_of 31 (Value.slice A3 q3 c3); refine (rvar_any A3 q3 c3 np _ _ (rd3.next (by repeat (first | with_reducible exact Below.refl _ _ | with_reducible assumption | with_reducible refine Below.drew ?_ | with_reducible refine below_drewN ?_ _ | with_reducible refine Below.setCell ?_ (by first | omega | (simp <;> omega)) _ | with_reducible refine Below.alloc ?_ (by first | omega | (simp <;> omega)) _))) (by omega) HP.out).mono ?_; rintro e w4 ⟨A4, c4, q4, rfl, hown4, hb4⟩; have hq4 := (own_q hl3 hown4).1; have hl4 := (own_q hl3 hown4).2; have hbz4 := below_next (v := wr) (by repeat (first | with_reducible exact Below.refl _ _ | with_reducible assumption | with_reducible refine Below.drew ?_ | with_reducible refine below_drewN ?_ _ | with_reducible refine Below.setCell ?_ (by first | omega | (simp <;> omega)) _ | with_reducible refine Below.alloc ?_ (by first | omega | (simp <;> omega)) _)) hb4; have hsz4 := hbz4.size; have rd4 := Reads.of_own hown4; clear hb4)
          | (go_at_call_of 31 (Value.slice A4 q4 c4); refine (rvar_any A4 q4 c4 (bitN cf) _ _ (rd4.next (by repeat (first | with_reducible exact Below.refl _ _ | with_reducible assumption | with_reducible refine Below.drew ?_ | with_reducible refine below_drewN ?_ _ | with_reducible refine Below.setCell ?_ (by first | omega | (simp <;> omega)) _ | with_reducible refine Below.alloc ?_ (by first | omega | (simp <;> omega)) _))) (by omega) (bitN_lt cf)).mono ?_; rintro e w5 ⟨A5, c5, q5, rfl, hown5, hb5⟩; have hq5 := (own_q hl4 hown5).1; have hl5 := (own_q hl4 hown5).2; have hbz5 := below_next (v := wr) (by repeat (first | with_reducible exact Below.refl _ _ | with_reducible assumption | with_reducible refine Below.drew ?_ | with_reducible refine below_drewN ?_ _ | with_reducible refine Below.setCell ?_ (by first | omega | (simp <;> omega)) _ | with_reducible refine Below.alloc ?_ (by first | omega | (simp <;> omega)) _)) hb5; have hsz5 := hbz5.size; have rd5 := Reads.of_own hown5; clear hb5)
          | (go_at_call 32; refine (bit_any cf _).mono ?_; rintro e wn ⟨rfl, rfl⟩))
      all_goals
        go_wp2_with fail
        go_roundg (n - (k + 1))
        case measure => have := HK.out; omega
        case rel =>
          have e : vl n ++ rowsB (L.take (k + 1)) = vl n ++ rowsB (L.take k) ++ vl ni ++ vl np ++ vl (bitN cf) := by
            rw [HS.out]
            simp [rowB, List.append_assoc]
          refine ⟨k + 1, q5, A5, c5, by omega, by go_num, rfl, ?_, HBB.out.trans (Below.mono (B := wr.heap.size) (by repeat (first | with_reducible exact Below.refl _ _ | with_reducible assumption | with_reducible refine Below.drew ?_ | with_reducible refine below_drewN ?_ _ | with_reducible refine Below.setCell ?_ (by first | omega | (simp <;> omega)) _ | with_reducible refine Below.alloc ?_ (by first | omega | (simp <;> omega)) _)) HBB.out.size), by omega⟩
          rw [e]
          exact own_more hown5 (by first | omega | (simp <;> omega))
    · obtain rfl : k = n := by omega
      go_wp2_with fail
      refine bodyPost_ret (v := .tuple #[.slice A' q c', .int .i64 0]) (by simp [results, Try.results14, go_sem]) rfl ?_
      refine ⟨A', q, c', rfl, ?_, hb⟩
      unfold putM
      rw [HL.out]
      have e : L.take k = L := List.take_of_length_le (by rw [HL.out]; exact Nat.le_refl _)
      rw [e] at hown
      exact hown
end Go.Proofs.Ytongakhcmdkeiaa

