/- How many objects an image has: the walk. -/
import Derived.Test.YtjbfkpajplmmgaaStrH
namespace Go.Proofs.Ytjbfkpajplmmgaa
open Go.RowKit

set_option maxHeartbeats 1000000 in
theorem objects_no (o u c size : Int) (w : World) (h : shapeL o u c = false) :
    Calls Try.prog 14 #[.agg #[.int .i64 o, .int .i64 u, .int .i64 c], .int .i64 size] w fun e w' => e = .returned (.int .i64 0) ∧ Below w.heap.size w w' := by
  have H := Lib.hid h
  clear h
  go_enter Try.func14, Try.ntmps14
  go_wp2_with fail
  all_goals
    refine (shape_any _ _ _ _).mono ?_
    rintro e w1 ⟨rfl, rfl⟩
    rw [H.out]
    go_wp2_with fail
    go_ret
    exact ⟨rfl, by repeat (first | with_reducible exact Below.refl _ _ | with_reducible refine Below.alloc ?_ (by simp <;> omega) _)⟩

theorem heldN_is (size : Int) : (size ≤ 0 ∧ heldN size = 0) ∨ (512 < size ∧ heldN size = 512) ∨ (0 < size ∧ size ≤ 512 ∧ (heldN size : Int) = size) := by
  unfold heldN
  by_cases h1 : size < 0
  · rw [if_pos h1]; exact .inl ⟨by omega, rfl⟩
  · rw [if_neg h1]
    by_cases h2 : 512 < size
    · rw [if_pos h2]; exact .inr (.inl ⟨h2, rfl⟩)
    · rw [if_neg h2]
      by_cases h3 : size = 0
      · exact .inl ⟨by omega, by omega⟩
      · exact .inr (.inr ⟨by omega, by omega, by omega⟩)

theorem shift_one {u P : Nat} (hu : u ≤ 6) (hP : 2 ^ u = P) (hb : P ≤ 64) : Op.shift .shl .i64 1 .i64 (u : Int) = pure (.int .i64 (P : Int)) := by
  refine (shift_shl_i64 (x := 1) (yk := .i64) (y := (u : Int)) (by omega) (by omega)).trans ?_
  rw [Int.toNat_natCast, Int.one_mul, pow_cast, hP, IntWalk.i64_in (P : Int) (by omega)]

theorem topX_min {P Q C x N : Nat} (hP : 0 < P) (hx : x % P = 0) (h : x < N) : topX P Q C (min (x + P) N) = max (topX P Q C x) (oX P Q C x + 1) := by
  obtain ⟨k, hk, h1, h2⟩ : ∃ k, min (x + P) N = x + k ∧ 1 ≤ k ∧ k ≤ P := ⟨min (x + P) N - x, by omega, by omega, by omega⟩
  rw [hk]
  exact topX_unit hx h1 h2

set_option maxHeartbeats 1000000 in
theorem objects_yes (U D C : Nat) (size : Int) (w : World) (u2 : 2 ≤ U) (d6 : U + D ≤ 6) (d3 : 3 ≤ U + D) (c1 : 1 ≤ C) (c4 : C ≤ 4) :
    Calls Try.prog 14 #[.agg #[.int .i64 ((U : Int) + D), .int .i64 U, .int .i64 C], .int .i64 size] w fun e w' => e = .returned (.int .i64 (topX (2 ^ U) (2 ^ D) C (heldN size) : Nat)) ∧ Below w.heap.size w w' := by
  have H := Lib.hid (shape_of u2 d6 d3 c1 c4)
  have hpl := fun (X : Nat) (hX : X ≤ 1073741824) w => place_yes U D C X w u2 d6 d3 c1 c4 hX
  have hN := heldN_le size
  have hsz := heldN_is size
  obtain ⟨N, hNe⟩ : ∃ N : Nat, heldN size = N := ⟨_, rfl⟩
  rw [hNe] at hN hsz ⊢
  clear hNe
  obtain ⟨P, hP, p1, p2⟩ := pow_small (U := U) (by omega)
  obtain ⟨Q, hQ⟩ : ∃ P : Nat, 2 ^ D = P := ⟨_, rfl⟩
  have hS := shift_one (u := U) (by omega) hP (by omega)
  rw [hP, hQ] at hpl ⊢
  clear hP hQ
  obtain ⟨o, ho⟩ : ∃ o : Int, o = (U : Int) + D := ⟨_, rfl⟩
  obtain ⟨u, hu⟩ : ∃ u : Int, u = (U : Int) := ⟨_, rfl⟩
  rw [← ho, ← hu] at H hpl ⊢
  rw [← hu] at hS
  clear ho hu u2 d6 d3
  go_enter Try.func14, Try.ntmps14
  go_upto_region 1 with fail
  go_cut [1] (fun s1 wc => s1 = .int .i64 (N : Nat) ∧ wc = w.alloc (.cells #[.int .i64 o, .int .i64 u, .int .i64 C] 23))
  case first =>
    rcases hsz with ⟨h1, rfl⟩ | ⟨h1, rfl⟩ | ⟨h1, h2, rfl⟩
    all_goals
      go_wp2_with fail
      go_meet
      exact ⟨rfl, rfl⟩
  case rest =>
    obtain ⟨rfl, rfl⟩ := hcut
    clear hsz
    go_wp2_with fail
    refine (shape_any _ _ _ _).mono ?_
    rintro e w1 ⟨rfl, rfl⟩
    rw [H.out]
    go_wp2_with fail
    go_loopg [5, 6] (N + 64) (fun gk v i wr => ∃ (x t : Nat), x + gk = N + 64 ∧ i = .int .i64 (x : Nat) ∧ v = .int .i64 (t : Nat) ∧ Below w.heap.size w wr ∧ wr.heap[w.heap.size]? = some (.cells #[.int .i64 o, .int .i64 u, .int .i64 C] 23 (0, 0)) ∧ Hid (topX P Q C (min x N) = t) ∧ t ≤ 512 ∧ Hid (x % P = 0))
    case atStart => exact ⟨0, 0, by omega, rfl, rfl, by repeat (first | with_reducible exact Below.refl _ _ | with_reducible refine Below.alloc ?_ (by simp <;> omega) _), (blk_old (by simp)).trans (blk_new rfl), Lib.hid (by rw [Nat.zero_min]; rfl), by omega, Lib.hid (Nat.zero_mod _)⟩
    case round =>
      obtain ⟨x, t, hk, rfl, rfl, hb, hc, HTT, ht, HM⟩ := hrel
      have HK := Lib.hid hk
      have hkn : x ≤ N + 64 := by omega
      clear hk
      have fc := blk_cell hc
      have hz := blk_lt hc
      by_cases hlt : x < N
      · go_wp2_with fail
        refine (hpl x (by omega) _).mono ?_
        rintro e w2 ⟨rfl, hb2⟩
        have hmin := topX_min (Q := Q) (C := C) (by omega) HM.out hlt
        have hmx : topX P Q C (min x N) = topX P Q C x := by rw [Nat.min_eq_left (by omega)]
        obtain ⟨y, hy⟩ : ∃ y, oX P Q C x = y := ⟨_, rfl⟩
        have hyk := oX_le P Q C x
        have htx := HTT.out
        rw [hmx] at htx
        rw [hy, htx] at hmin
        rw [hy] at hyk ⊢
        have HMIN := Lib.hid hmin
        have hc2 := (hb2.block _ hz).trans hc
        have fc2 := blk_cell hc2
        have hz2 := blk_lt hc2
        have hbb := hb.trans (hb2.mono hb.size)
        clear hy hc fc hz hb2 hb hmin hmx htx HTT
        by_cases hm : t < y + 1
        · have hm' : (t : Int) < (y : Int) + 1 := by omega
          go_wp2_with fail
          go_roundg (N + 64 - (x + P))
          case measure => have := HK.out; omega
          case rel => exact ⟨x + P, y + 1, by omega, by go_num, by go_num, hbb, hc2, Lib.hid (by rw [HMIN.out]; omega), by omega, Lib.hid (by rw [Nat.add_mod_right]; exact HM.out)⟩
        · have hm' : ¬ (t : Int) < (y : Int) + 1 := by omega
          go_wp2_with fail
          go_roundg (N + 64 - (x + P))
          case measure => have := HK.out; omega
          case rel => exact ⟨x + P, t, by omega, by go_num, by go_num, hbb, hc2, Lib.hid (by rw [HMIN.out]; omega), by omega, Lib.hid (by rw [Nat.add_mod_right]; exact HM.out)⟩
      · go_wp2_with fail
        go_ret
        have := HTT.out
        rw [Nat.min_eq_right (by omega)] at this
        exact ⟨ret_int (by rw [this]), hb⟩
end Go.Proofs.Ytjbfkpajplmmgaa
