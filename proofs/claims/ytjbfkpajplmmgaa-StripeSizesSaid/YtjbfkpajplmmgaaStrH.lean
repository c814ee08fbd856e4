/- How many objects an image has, by the reference. -/
import Derived.Test.YtjbfkpajplmmgaaStrG
namespace Go.Proofs.Ytjbfkpajplmmgaa
open Go.RowKit

theorem robjects_no (o u c size : Int) (w : World) (h : shapeL o u c = false) :
    Calls Try.prog 15 #[.agg #[.int .i64 o, .int .i64 u, .int .i64 c], .int .i64 size] w fun e w' => e = .returned (.int .i64 0) ∧ Below w.heap.size w w' := by
  have H := Lib.hid h
  clear h
  go_enter Try.func15, Try.ntmps15
  go_wp2_with fail
  refine (refShape_any _ _ _ _).mono ?_
  rintro e w1 ⟨rfl, rfl⟩
  rw [H.out]
  go_wp2_with fail
  go_ret
  exact ⟨rfl, by repeat (first | with_reducible exact Below.refl _ _ | with_reducible refine Below.alloc ?_ (by simp <;> omega) _)⟩

set_option maxHeartbeats 1000000 in
theorem robjects_yes (U D C : Nat) (size : Int) (w : World) (u2 : 2 ≤ U) (d6 : U + D ≤ 6) (d3 : 3 ≤ U + D) (c1 : 1 ≤ C) (c4 : C ≤ 4) :
    Calls Try.prog 15 #[.agg #[.int .i64 ((U : Int) + D), .int .i64 U, .int .i64 C], .int .i64 size] w fun e w' => e = .returned (.int .i64 (topX (2 ^ U) (2 ^ D) C (heldN size) : Nat)) ∧ Below w.heap.size w w' := by
  have H := Lib.hid (shape_of u2 d6 d3 c1 c4)
  have hpl := fun (X : Nat) (hX : X ≤ 1073741824) w => rplace_yes U D C X w u2 d6 d3 c1 c4 hX
  have hN := heldN_le size
  have hh := held_any size
  obtain ⟨N, hNe⟩ : ∃ N : Nat, heldN size = N := ⟨_, rfl⟩
  rw [hNe] at hN hh ⊢
  clear hNe
  obtain ⟨P, hP⟩ : ∃ P : Nat, 2 ^ U = P := ⟨_, rfl⟩
  obtain ⟨Q, hQ⟩ : ∃ P : Nat, 2 ^ D = P := ⟨_, rfl⟩
  rw [hP, hQ] at hpl ⊢
  clear hP hQ
  obtain ⟨o, ho⟩ : ∃ o : Int, o = (U : Int) + D := ⟨_, rfl⟩
  rw [← ho] at H hpl ⊢
  clear ho
  go_enter Try.func15, Try.ntmps15
  go_wp2_with fail
  refine (refShape_any _ _ _ _).mono ?_
  rintro e w1 ⟨rfl, rfl⟩
  rw [H.out]
  go_wp2_with fail
  go_loopg [5, 6] N (fun gk v i wr => ∃ (k t : Nat), k + gk = N ∧ i = .int .i64 (k : Nat) ∧ v = .int .i64 (t : Nat) ∧ Below w.heap.size w wr ∧ wr.heap[w.heap.size]? = some (.cells #[.int .i64 o, .int .i64 U, .int .i64 C] 23 (0, 0)) ∧ Hid (topX P Q C k = t) ∧ t ≤ k)
  case atStart => exact ⟨0, 0, by omega, rfl, rfl, by repeat (first | with_reducible exact Below.refl _ _ | with_reducible refine Below.alloc ?_ (by simp <;> omega) _), (blk_old (by simp)).trans (blk_new rfl), Lib.hid rfl, by omega⟩
  case round =>
    obtain ⟨k, t, hk, rfl, rfl, hb, hc, HT, ht⟩ := hrel
    have HK := Lib.hid hk
    have hkn : k ≤ N := by omega
    clear hk
    have fc := blk_cell hc
    have hz := blk_lt hc
    by_cases hlt : k < N
    · go_wp2_with fail
      refine (hh _).mono ?_
      rintro e w1 ⟨rfl, rfl⟩
      go_wp2_with fail
      refine (hpl k (by omega) _).mono ?_
      rintro e w2 ⟨rfl, hb2⟩
      obtain ⟨x, hx⟩ : ∃ x, oX P Q C k = x := ⟨_, rfl⟩
      have hxk := oX_le P Q C k
      rw [hx] at hxk ⊢
      have hc2 := (hb2.block _ hz).trans hc
      have fc2 := blk_cell hc2
      have hz2 := blk_lt hc2
      have hbb := hb.trans (hb2.mono hb.size)
      have HX := Lib.hid hx
      clear hx hc fc hz hb2 hb
      by_cases hm : t < x + 1
      · have hm' : (t : Int) < (x : Int) + 1 := by omega
        go_wp2_with fail
        go_roundg (N - (k + 1))
        case measure => have := HK.out; omega
        case rel => exact ⟨k + 1, x + 1, by omega, by go_num, by go_num, hbb, hc2, Lib.hid (by simp only [topX]; rw [HT.out, HX.out]; omega), by omega⟩
      · have hm' : ¬ (t : Int) < (x : Int) + 1 := by omega
        go_wp2_with fail
        go_roundg (N - (k + 1))
        case measure => have := HK.out; omega
        case rel => exact ⟨k + 1, t, by omega, by go_num, by go_num, hbb, hc2, Lib.hid (by simp only [topX]; rw [HT.out, HX.out]; omega), by omega⟩
    · obtain rfl : k = N := by omega
      go_wp2_with fail
      refine (hh _).mono ?_
      rintro e w1 ⟨rfl, rfl⟩
      go_wp2_with fail
      go_ret
      exact ⟨ret_int (by rw [HT.out]), hb⟩
end Go.Proofs.Ytjbfkpajplmmgaa
