/- How many bytes of an object lie in an image: the walks of both. -/
import Derived.Test.YtjbfkpajplmmgaaStrI
namespace Go.Proofs.Ytjbfkpajplmmgaa
open Go.RowKit

/-- 'topA' where the object's number may be any integer. -/
def topI (P Q C : Nat) (b : Int) (n : Nat) : Nat := if b < 0 then 0 else topA P Q C b.toNat n
theorem topI_nat (P Q C b n : Nat) : topI P Q C (b : Int) n = topA P Q C b n := by unfold topI; rw [if_neg (by omega), Int.toNat_natCast]
theorem topI_zero (P Q C : Nat) (b : Int) : topI P Q C b 0 = 0 := by unfold topI; split <;> rfl
theorem topI_yes {P Q C n : Nat} {b : Int} (h : (oX P Q C n : Int) = b) : topI P Q C b (n + 1) = max (topI P Q C b n) (oA P Q C n + 1) := by
  subst h
  rw [topI_nat, topI_nat, topA, if_pos rfl]
theorem topI_no {P Q C n : Nat} {b : Int} (h : ¬ (oX P Q C n : Int) = b) : topI P Q C b (n + 1) = topI P Q C b n := by
  unfold topI
  split
  · rfl
  · rw [topA, if_neg (by omega)]
theorem topI_far {P Q C n : Nat} {b : Int} (hn : n ≤ 512) (h : b < 0 ∨ 1048576 < b) : topI P Q C b n = 0 := by
  unfold topI
  split
  · rfl
  · exact topA_none (by have := topX_le (P := P) (Q := Q) (C := C) n; omega)

theorem rbytes_no (o u c size obj : Int) (w : World) (h : shapeL o u c = false) :
    Calls Try.prog 17 #[.agg #[.int .i64 o, .int .i64 u, .int .i64 c], .int .i64 size, .int .i64 obj] w fun e w' => e = .returned (.int .i64 0) ∧ Below w.heap.size w w' := by
  have H := Lib.hid h
  clear h
  go_enter Try.func17, Try.ntmps17
  go_wp2_with fail
  refine (refShape_any _ _ _ _).mono ?_
  rintro e w1 ⟨rfl, rfl⟩
  rw [H.out]
  go_wp2_with fail
  go_ret
  exact ⟨rfl, by repeat (first | with_reducible exact Below.refl _ _ | with_reducible refine Below.alloc ?_ (by simp <;> omega) _)⟩

set_option maxHeartbeats 1000000 in
theorem rbytes_yes (U D C : Nat) (size obj : Int) (w : World) (u2 : 2 ≤ U) (d6 : U + D ≤ 6) (d3 : 3 ≤ U + D) (c1 : 1 ≤ C) (c4 : C ≤ 4) :
    Calls Try.prog 17 #[.agg #[.int .i64 ((U : Int) + D), .int .i64 U, .int .i64 C], .int .i64 size, .int .i64 obj] w fun e w' => e = .returned (.int .i64 (topI (2 ^ U) (2 ^ D) C obj (heldN size) : Nat)) ∧ Below w.heap.size w w' := by
  have H := Lib.hid (shape_of u2 d6 d3 c1 c4)
  have hpl := fun (X : Nat) (hX : X ≤ 1073741824) w => rplace_yes U D C X w u2 d6 d3 c1 c4 hX
  have hN := heldN_le size
  have hh := held_any size
  obtain ⟨N, hNe⟩ : ∃ N : Nat, heldN size = N := ⟨_, rfl⟩
  rw [hNe] at hN hh ⊢
  clear hNe
  obtain ⟨P, hP, p1, p2⟩ := pow_small (U := U) (by omega)
  obtain ⟨Q, hQ, q1, q2⟩ := pow_small (U := D) (by omega)
  have ha : ∀ x, oA (2 ^ U) (2 ^ D) C x < 4096 := fun x => by
    have h1 := oA_lt (P := P) (Q := Q) (c := C) (by omega) (by omega) x
    have : P * Q ≤ 64 * 64 := Nat.mul_le_mul p2 q2
    rw [hP, hQ]
    omega
  rw [hP, hQ] at hpl ha ⊢
  clear hP hQ p1 p2 q1 q2
  obtain ⟨o, ho⟩ : ∃ o : Int, o = (U : Int) + D := ⟨_, rfl⟩
  rw [← ho] at H hpl ⊢
  clear ho
  have HA := Lib.hid ha
  clear ha
  go_enter Try.func17, Try.ntmps17
  go_wp2_with fail
  refine (refShape_any _ _ _ _).mono ?_
  rintro e w1 ⟨rfl, rfl⟩
  rw [H.out]
  go_wp2_with fail
  go_loopg [7, 8] N (fun gk v i wr => ∃ (k t : Nat), k + gk = N ∧ i = .int .i64 (k : Nat) ∧ v = .int .i64 (t : Nat) ∧ Below w.heap.size w wr ∧ wr.heap[w.heap.size]? = some (.cells #[.int .i64 o, .int .i64 U, .int .i64 C] 23 (0, 0)) ∧ Hid (topI P Q C obj k = t) ∧ t ≤ 4096)
  case atStart => exact ⟨0, 0, by omega, rfl, rfl, by repeat (first | with_reducible exact Below.refl _ _ | with_reducible refine Below.alloc ?_ (by simp <;> omega) _), (blk_old (by simp)).trans (blk_new rfl), Lib.hid (topI_zero _ _ _ _), by omega⟩
  case round =>
    obtain ⟨k, t, hk, rfl, rfl, hb, hc, HT, ht⟩ := hrel
    have HK := Lib.hid hk
    have hkn : k ≤ N := by omega
    clear hk
    have fc := blk_cell hc
    have hz := blk_lt hc
    by_cases hlt : k < N
    · go_wp2_with fail
      refine (hh _).mono ?_
      rintro e w1 ⟨rfl, rfl⟩
      go_wp2_with fail
      refine (hpl k (by omega) _).mono ?_
      rintro e w2 ⟨rfl, hb2⟩
      obtain ⟨x, hx⟩ : ∃ x, oX P Q C k = x := ⟨_, rfl⟩
      obtain ⟨y, hy⟩ : ∃ x, oA P Q C k = x := ⟨_, rfl⟩
      have hyk := HA.out k
      rw [hy] at hyk
      have hyes := topI_yes (P := P) (Q := Q) (C := C) (n := k) (b := obj)
      have hno := topI_no (P := P) (Q := Q) (C := C) (n := k) (b := obj)
      rw [hx, hy, HT.out] at hyes
      rw [hx, HT.out] at hno
      rw [hx, hy]
      have HYES := Lib.hid hyes
      have HNO := Lib.hid hno
      have hc2 := (hb2.block _ hz).trans hc
      have fc2 := blk_cell hc2
      have hz2 := blk_lt hc2
      have hbb := hb.trans (hb2.mono hb.size)
      clear hx hy hc fc hz hb2 hb hyes hno
      by_cases he : (x : Int) = obj
      · have HE := Lib.hid he
        have he2 : ((x : Int) == obj) = true := by simpa using he
        clear he
        by_cases hm : t < y + 1
        · have hm' : (t : Int) < (y : Int) + 1 := by omega
          go_wp2_with fail
          go_roundg (N - (k + 1))
          case measure => have := HK.out; omega
          case rel => exact ⟨k + 1, y + 1, by omega, by go_num, by go_num, hbb, hc2, Lib.hid (by rw [HYES.out HE.out]; omega), by omega⟩
        · have hm' : ¬ (t : Int) < (y : Int) + 1 := by omega
          go_wp2_with fail
          go_roundg (N - (k + 1))
          case measure => have := HK.out; omega
          case rel => exact ⟨k + 1, t, by omega, by go_num, by go_num, hbb, hc2, Lib.hid (by rw [HYES.out HE.out]; omega), by omega⟩
      · have HE := Lib.hid he
        have he2 : ((x : Int) == obj) = false := by simpa using he
        clear he
        go_wp2_with fail
        go_roundg (N - (k + 1))
        case measure => have := HK.out; omega
        case rel => exact ⟨k + 1, t, by omega, by go_num, by go_num, hbb, hc2, Lib.hid (HNO.out HE.out), by omega⟩
    · obtain rfl : k = N := by omega
      go_wp2_with fail
      refine (hh _).mono ?_
      rintro e w1 ⟨rfl, rfl⟩
      go_wp2_with fail
      go_ret
      exact ⟨ret_int (by rw [HT.out]), hb⟩
end Go.Proofs.Ytjbfkpajplmmgaa
