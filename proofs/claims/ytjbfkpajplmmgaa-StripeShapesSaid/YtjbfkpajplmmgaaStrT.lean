/- The law StripeShapes: the walk. -/
import Derived.Test.YtjbfkpajplmmgaaStrR
import Derived.Deep.DrawnRows
namespace Go.Proofs.Ytjbfkpajplmmgaa
open Go.RowKit
attribute [local go_sem ↓] Go.wp_at_zero Go.wp_at_succ

set_option maxHeartbeats 8000000 in
theorem shapes_law (a b c off n obj : Int) (w : World) :
    Calls Try.prog 3 #[.int .i64 a, .int .i64 b, .int .i64 c, .int .i64 off, .int .i64 n, .int .i64 obj] w fun e w' => e = .returned (.bool true) ∧ Below w.heap.size w w' := by
  obtain ⟨U, D, C, u2, d6, d3, c1, c4, hC, hsh⟩ := shape8_any a b c w
  have H1 : bits .and .i64 off 511 = off % 512 := i64_mask 9 (by decide) off 511 (by decide)
  have H2 : bits .and .i64 n 511 = n % 512 := i64_mask 9 (by decide) n 511 (by decide)
  have H3 : bits .and .i64 obj 127 = obj % 128 := i64_mask 7 (by decide) obj 127 (by decide)
  have n1 : 0 ≤ n % 512 ∧ n % 512 < 512 := by omega
  obtain ⟨o, ho⟩ : ∃ o : Int, o = (U : Int) + D := ⟨_, rfl⟩
  obtain ⟨u, hu⟩ : ∃ u : Int, u = (U : Int) := ⟨_, rfl⟩
  obtain ⟨k, hk⟩ : ∃ u : Int, u = (C : Int) := ⟨_, rfl⟩
  rw [← ho, ← hu, ← hk] at hsh
  clear ho hu hk hC u2 d6 d3 c1 c4
  generalize off % 512 = F at *
  generalize n % 512 = N at *
  generalize obj % 128 = B at *
  obtain ⟨x, y, hp1, hp2⟩ := place_pair o u k F
  obtain ⟨s, ho1, ho2⟩ := objects_pair o u k (1 + N)
  obtain ⟨t, hy1, hy2⟩ := bytes_pair o u k (1 + N) B
  obtain ⟨L, hL, hm1, hm2⟩ := map_pair o u k F (1 + N)
  have hxx : (x == x) = true := by simp
  have hyy : (y == y) = true := by simp
  go_enter Try.func3, Try.ntmps3
  go_wp2_with fail
  refine hsh.mono ?_
  rintro e wa ⟨rfl, hb⟩
  clear hsh
  go_wp2_with fail
  refine (hp1 _).mono ?_
  rintro e w1 ⟨rfl, hb1⟩
  have hc1 : w1.heap[wa.heap.size]? = some (.cells #[.int .i64 o, .int .i64 u, .int .i64 k] 23 (0, 0)) := (hb1.block _ (by simp <;> omega)).trans (blk_new rfl)
  have fc1 := blk_cell hc1
  have hz1 : wa.heap.size < w1.heap.size := blk_lt hc1
  have hw1 : Below w.heap.size w w1 := hb.trans (Below.trans (B := w.heap.size) (a := wa) (by have := hb.size; exact (by repeat (first | with_reducible exact Below.refl _ _ | with_reducible assumption | with_reducible refine Below.drew ?_ | with_reducible refine below_drewN ?_ _ | with_reducible refine Below.setCell ?_ (by first | omega | (simp <;> omega)) _ | with_reducible refine Below.alloc ?_ (by first | omega | (simp <;> omega)) _))) (hb1.mono (by have := hb.size; simp <;> omega)))
  clear hb1 hb
  go_wp2_with fail
  refine (hp2 _).mono ?_
  rintro e W3 ⟨rfl, hb2⟩
  have hc3 := (hb2.block _ (by omega)).trans hc1
  have hz3 := blk_lt hc3
  have hw3 : Below w.heap.size w W3 := hw1.trans (hb2.mono hw1.size)
  clear hb2 hc1 fc1 hz1 hw1 hp1 hp2
  go_wp2_with fail
  have ks : ∀ W' : World, Below W3.heap.size W3 W' → (W'.cell? ⟨wa.heap.size, 0, none⟩ = some (.int .i64 o) ∧ W'.cell? ⟨wa.heap.size, 1, none⟩ = some (.int .i64 u) ∧ W'.cell? ⟨wa.heap.size, 2, none⟩ = some (.int .i64 k)) := fun W' hb => ⟨(hb.cell (p := ⟨wa.heap.size, 0, none⟩) hz3).trans (blk_cell hc3 0), (hb.cell (p := ⟨wa.heap.size, 1, none⟩) hz3).trans (blk_cell hc3 1), (hb.cell (p := ⟨wa.heap.size, 2, none⟩) hz3).trans (blk_cell hc3 2)⟩
  have KS := Lib.hid ks
  clear ks hc3 hz3
  go_region_held3 (fun W' => W'.cell? ⟨wa.heap.size, 0, none⟩ = some (.int .i64 o) ∧ W'.cell? ⟨wa.heap.size, 1, none⟩ = some (.int .i64 u) ∧ W'.cell? ⟨wa.heap.size, 2, none⟩ = some (.int .i64 k))
    (exact KS.out _ (by repeat (first | with_reducible exact Below.refl _ _ | with_reducible assumption | with_reducible refine Below.drew ?_ | with_reducible refine below_drewN ?_ _ | with_reducible refine Below.setCell ?_ (by first | omega | (simp <;> omega)) _ | with_reducible refine Below.alloc ?_ (by first | omega | (simp <;> omega)) _)))
    (first | (go_at_call 12; refine (hm1 _).mono ?_; rintro e wn ⟨A1, k1, rfl, how1, hbn⟩; have hr1 := Reads.of_own how1; clear how1; have hbN := Below.trans (B := W3.heap.size) (a := W3) (by repeat (first | with_reducible exact Below.refl _ _ | with_reducible assumption | with_reducible refine Below.drew ?_ | with_reducible refine below_drewN ?_ _ | with_reducible refine Below.setCell ?_ (by first | omega | (simp <;> omega)) _ | with_reducible refine Below.alloc ?_ (by first | omega | (simp <;> omega)) _)) (hbn.mono (by first | omega | (simp <;> omega))); have hsN := hbN.size; clear hbn) | (go_at_call 13; refine (hm2 _).mono ?_; rintro e wn ⟨A2, k2, rfl, how2, hbn⟩; have hr1' := hr1.next hbn; have hr2 := Reads.of_own how2; clear how2 hr1; have hbN := Below.trans (B := W3.heap.size) (a := W3) (by repeat (first | with_reducible exact Below.refl _ _ | with_reducible assumption | with_reducible refine Below.drew ?_ | with_reducible refine below_drewN ?_ _ | with_reducible refine Below.setCell ?_ (by first | omega | (simp <;> omega)) _ | with_reducible refine Below.alloc ?_ (by first | omega | (simp <;> omega)) _)) (hbn.mono (by first | omega | (simp <;> omega))); have hsN := hbN.size; clear hbn) | (go_at_call 11; refine (same_any _ _ _ _ _ L _ hr1' hr2).mono ?_; rintro e wn ⟨rfl, hbn⟩; clear hr1' hr2; have hbN := Below.trans (B := W3.heap.size) (a := W3) (by repeat (first | with_reducible exact Below.refl _ _ | with_reducible assumption | with_reducible refine Below.drew ?_ | with_reducible refine below_drewN ?_ _ | with_reducible refine Below.setCell ?_ (by first | omega | (simp <;> omega)) _ | with_reducible refine Below.alloc ?_ (by first | omega | (simp <;> omega)) _)) (hbn.mono (by first | omega | (simp <;> omega))); have hsN := hbN.size; clear hbn) | (go_at_call 14; refine (ho1 _).mono ?_; rintro e wn ⟨rfl, hbn⟩; have hbN := Below.trans (B := W3.heap.size) (a := W3) (by repeat (first | with_reducible exact Below.refl _ _ | with_reducible assumption | with_reducible refine Below.drew ?_ | with_reducible refine below_drewN ?_ _ | with_reducible refine Below.setCell ?_ (by first | omega | (simp <;> omega)) _ | with_reducible refine Below.alloc ?_ (by first | omega | (simp <;> omega)) _)) (hbn.mono (by first | omega | (simp <;> omega))); have hsN := hbN.size; clear hbn) | (go_at_call 15; refine (ho2 _).mono ?_; rintro e wn ⟨rfl, hbn⟩; have hbN := Below.trans (B := W3.heap.size) (a := W3) (by repeat (first | with_reducible exact Below.refl _ _ | with_reducible assumption | with_reducible refine Below.drew ?_ | with_reducible refine below_drewN ?_ _ | with_reducible refine Below.setCell ?_ (by first | omega | (simp <;> omega)) _ | with_reducible refine Below.alloc ?_ (by first | omega | (simp <;> omega)) _)) (hbn.mono (by first | omega | (simp <;> omega))); have hsN := hbN.size; clear hbn) | (go_at_call 16; refine (hy1 _).mono ?_; rintro e wn ⟨rfl, hbn⟩; have hbN := Below.trans (B := W3.heap.size) (a := W3) (by repeat (first | with_reducible exact Below.refl _ _ | with_reducible assumption | with_reducible refine Below.drew ?_ | with_reducible refine below_drewN ?_ _ | with_reducible refine Below.setCell ?_ (by first | omega | (simp <;> omega)) _ | with_reducible refine Below.alloc ?_ (by first | omega | (simp <;> omega)) _)) (hbn.mono (by first | omega | (simp <;> omega))); have hsN := hbN.size; clear hbn) | (go_at_call 17; refine (hy2 _).mono ?_; rintro e wn ⟨rfl, hbn⟩; have hbN := Below.trans (B := W3.heap.size) (a := W3) (by repeat (first | with_reducible exact Below.refl _ _ | with_reducible assumption | with_reducible refine Below.drew ?_ | with_reducible refine below_drewN ?_ _ | with_reducible refine Below.setCell ?_ (by first | omega | (simp <;> omega)) _ | with_reducible refine Below.alloc ?_ (by first | omega | (simp <;> omega)) _)) (hbn.mono (by first | omega | (simp <;> omega))); have hsN := hbN.size; clear hbn) | (go_at_call 18; refine (known_any _).mono ?_; rintro e wn ⟨rfl, hbn⟩; have hbN := Below.trans (B := W3.heap.size) (a := W3) (by repeat (first | with_reducible exact Below.refl _ _ | with_reducible assumption | with_reducible refine Below.drew ?_ | with_reducible refine below_drewN ?_ _ | with_reducible refine Below.setCell ?_ (by first | omega | (simp <;> omega)) _ | with_reducible refine Below.alloc ?_ (by first | omega | (simp <;> omega)) _)) (hbn.mono (by first | omega | (simp <;> omega))); have hsN := hbN.size; clear hbn))
  all_goals (go_wp2_with fail; go_ret; exact ⟨rfl, hw3.trans (Below.mono (B := W3.heap.size) (by repeat (first | with_reducible exact Below.refl _ _ | with_reducible assumption | with_reducible refine Below.drew ?_ | with_reducible refine below_drewN ?_ _ | with_reducible refine Below.setCell ?_ (by first | omega | (simp <;> omega)) _ | with_reducible refine Below.alloc ?_ (by first | omega | (simp <;> omega)) _)) hw3.size)⟩)
end Go.Proofs.Ytjbfkpajplmmgaa
