/- Two rows of pieces that read alike are told alike; Back. -/
import Derived.Test.YtjbfkpajplmmgaaStrM
namespace Go.Proofs.Ytjbfkpajplmmgaa
open Go.RowKit

theorem pcs_nth {L : List Pc} {k : Nat} (h : k < L.length) : ∃ o a l i : Nat, (pcs L)[k * 4]? = some (.int .i64 (o : Nat)) ∧ (pcs L)[k * 4 + 1]? = some (.int .i64 (a : Nat)) ∧ (pcs L)[k * 4 + 2]? = some (.int .i64 (l : Nat)) ∧ (pcs L)[k * 4 + 3]? = some (.int .i64 (i : Nat)) := by
  induction L with
  | nil => simp at h
  | cons y r ih =>
    obtain ⟨o, a, l, i⟩ := y
    by_cases e : k = r.length
    · subst e; exact ⟨o, a, l, i, pcs_last o a l i r⟩
    · have hk : k < r.length := by simp at h; omega
      obtain ⟨o', a', l', i', h0, h1, h2, h3⟩ := ih hk
      have hl := pcs_length r
      refine ⟨o', a', l', i', ?_, ?_, ?_, ?_⟩ <;> (unfold pcs; rw [List.getElem?_append_left (by omega)]; assumption)

theorem Reads.at4 {w : World} {B n c : Nat} {A : Option Addr} {L : List Pc} (h : Reads w B 4 A n c (pcs L)) {k : Nat} (hk : k < n) :
    ∃ b o, A = some ⟨b, o, none⟩ ∧ b < B ∧ ∀ j u, (pcs L)[k * 4 + j]? = some u → w.cell? ⟨b, o + k * 4 + j, none⟩ = some u := by
  obtain ⟨b, o, e, hb, hc⟩ := h.2.2.2.2 (by omega)
  exact ⟨b, o, e, hb, fun j u hu => by rw [Nat.add_assoc]; exact hc _ u hu⟩

set_option maxHeartbeats 1000000 in
theorem same_any (A1 A2 : Option Addr) (n c1 c2 : Nat) (L : List Pc) (w : World) (h1 : Reads w w.heap.size 4 A1 n c1 (pcs L)) (h2 : Reads w w.heap.size 4 A2 n c2 (pcs L)) :
    Calls Try.prog 11 #[.slice A1 n c1, .slice A2 n c2] w fun e w' => e = .returned (.bool true) ∧ Below w.heap.size w w' := by
  have hlen : L.length = n := by have := h1.1; rw [pcs_length] at this; omega
  have hbig := h1.big
  have HL := Lib.hid hlen
  clear hlen
  have dn : ((n : Int) != (n : Int)) = false := by simp
  go_enter Try.func11, Try.ntmps11
  go_wp2_with fail
  go_loopg [5] n (fun gk i wr => ∃ (k nq : Nat), k + gk = n ∧ i = .int .i64 (k : Nat) ∧ w.drewN nq = wr)
  case atStart => exact ⟨0, 0, by omega, rfl, rfl⟩
  case round =>
    obtain ⟨k, nq, hk, rfl, hwr⟩ := hrel
    have HK := Lib.hid hk
    have hkn : k ≤ n := by omega
    clear hk
    by_cases hlt : k < n
    · obtain ⟨b1, o1, rfl, hb1, hc1⟩ := (h1.drewN nq).at4 hlt
      obtain ⟨b2, o2, rfl, hb2, hc2⟩ := (h2.drewN nq).at4 hlt
      obtain ⟨o, a, l, i, p0, p1, p2, p3⟩ := pcs_nth (L := L) (k := k) (by rw [HL.out]; exact hlt)
      have x0 := hc1 0 _ p0
      have x1 := hc1 1 _ p1
      have x2 := hc1 2 _ p2
      have x3 := hc1 3 _ p3
      have y0 := hc2 0 _ p0
      have y1 := hc2 1 _ p1
      have y2 := hc2 2 _ p2
      have y3 := hc2 3 _ p3
      rw [Nat.add_zero] at x0 y0
      have HWR := Lib.hid hwr
      rw [hwr] at x0 x1 x2 x3 y0 y1 y2 y3
      have b0 : (0 : Int) ≤ (k : Int) := by omega
      have bk : (k : Int) < (n : Int) := by omega
      clear hwr hc1 hc2 p0 p1 p2 p3
      go_wp2_with fail
      go_quiet (fail)
      go_wp2_with fail
      go_roundg (n - (k + 1))
      case measure => have := HK.out; omega
      case rel => exact ⟨k + 1, _, by omega, by go_num, by rw [← HWR.out, World.drewN_drewN]⟩
    · obtain rfl : k = n := by omega
      go_wp2_with fail
      go_ret
      exact ⟨rfl, by rw [← hwr]; exact below_drewN (Below.refl _ _) _⟩
end Go.Proofs.Ytjbfkpajplmmgaa
