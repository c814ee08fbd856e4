/- How many bytes of an object lie in an image: the walk of the program's. -/
import Derived.Test.YtjbfkpajplmmgaaStrJ
namespace Go.Proofs.Ytjbfkpajplmmgaa
open Go.RowKit

set_option maxHeartbeats 1000000 in
theorem bytes_no (o u c size obj : Int) (w : World) (h : shapeL o u c = false ∨ obj < 0 ∨ 1048576 < obj) :
    Calls Try.prog 16 #[.agg #[.int .i64 o, .int .i64 u, .int .i64 c], .int .i64 size, .int .i64 obj] w fun e w' => e = .returned (.int .i64 0) ∧ Below w.heap.size w w' := by
  cases hs : shapeL o u c
  · have H := Lib.hid hs
    clear h hs
    go_enter Try.func16, Try.ntmps16
    go_wp2_with fail
    all_goals
      refine (shape_any _ _ _ _).mono ?_
      rintro e w1 ⟨rfl, rfl⟩
      rw [H.out]
      go_wp2_with fail
      go_ret
      exact ⟨rfl, by repeat (first | with_reducible exact Below.refl _ _ | with_reducible refine Below.alloc ?_ (by simp <;> omega) _)⟩
  · have H := Lib.hid hs
    have h' : obj < 0 ∨ 1048576 < obj := by
      rcases h with h | h
      · rw [hs] at h; cases h
      · exact h
    clear h hs
    by_cases d1 : obj < 0
    · have e1 := dec_yes d1
      go_enter Try.func16, Try.ntmps16
      go_wp2_with fail
      all_goals
        refine (shape_any _ _ _ _).mono ?_
        rintro e w1 ⟨rfl, rfl⟩
        rw [H.out]
        go_wp2_with fail
        go_ret
        exact ⟨rfl, by repeat (first | with_reducible exact Below.refl _ _ | with_reducible refine Below.alloc ?_ (by simp <;> omega) _)⟩
    · have e1 := dec_no d1
      have e2 : decide (1048576 < obj) = true := dec_yes (by omega)
      clear h' d1
      go_enter Try.func16, Try.ntmps16
      go_wp2_with fail
      all_goals
        refine (shape_any _ _ _ _).mono ?_
        rintro e w1 ⟨rfl, rfl⟩
        rw [H.out]
        go_wp2_with fail
        go_ret
        exact ⟨rfl, by repeat (first | with_reducible exact Below.refl _ _ | with_reducible refine Below.alloc ?_ (by simp <;> omega) _)⟩

theorem backi_int (U D C B A : Nat) (a : Int) (ha : a = A) (w : World) (u2 : 2 ≤ U) (d6 : U + D ≤ 6) (c1 : 1 ≤ C) (c4 : C ≤ 4) (hB : B ≤ 1048576) (hA : A ≤ 64) :
    Calls Try.prog 25 #[.agg #[.int .i64 ((U : Int) + D), .int .i64 U, .int .i64 C], .int .i64 B, .int .i64 a] w fun e w' => e = .returned (.int .i64 (bk (2 ^ U) (2 ^ D) C B A : Nat)) ∧ Below w.heap.size w w' := by
  subst ha
  exact backi_any U D C B A w u2 d6 c1 c4 hB hA

set_option maxHeartbeats 1000000 in
theorem bytes_yes (U D C B : Nat) (size : Int) (w : World) (u2 : 2 ≤ U) (d6 : U + D ≤ 6) (d3 : 3 ≤ U + D) (c1 : 1 ≤ C) (c4 : C ≤ 4) (hB : B ≤ 1048576) :
    Calls Try.prog 16 #[.agg #[.int .i64 ((U : Int) + D), .int .i64 U, .int .i64 C], .int .i64 size, .int .i64 (B : Nat)] w fun e w' => e = .returned (.int .i64 (topA (2 ^ U) (2 ^ D) C B (heldN size) : Nat)) ∧ Below w.heap.size w w' := by
  have H := Lib.hid (shape_of u2 d6 d3 c1 c4)
  have hbk := fun (A : Nat) (a : Int) (ha : a = A) (hA : A ≤ 64) w => backi_int U D C B A a ha w u2 d6 c1 c4 hB hA
  have hN := heldN_le size
  have hsz := heldN_is size
  obtain ⟨N, hNe⟩ : ∃ N : Nat, heldN size = N := ⟨_, rfl⟩
  rw [hNe] at hN hsz ⊢
  clear hNe
  obtain ⟨P, hP, p1, p2⟩ := pow_small (U := U) (by omega)
  obtain ⟨Q, hQ, q1, q2⟩ := pow_small (U := D) (by omega)
  obtain ⟨S, hSe, s1, s2⟩ := pow_small (U := U + D) (by omega)
  have hS := shift_one (u := U + D) (by omega) hSe (by omega)
  have hPQ : P * Q = S := by rw [← hSe, Nat.pow_add, hP, hQ]
  have hend := fun (n : Nat) (hn : n ≤ P * Q) h1 h2 => topA_bk (b := B) (size := N) (n := n) (by omega : 0 < P) (by omega : 0 < Q) (by omega : 0 < C) hn h1 h2
  rw [hP, hQ] at hbk ⊢
  rw [hPQ] at hend
  clear hP hQ hPQ hSe p1 p2 q1 q2
  obtain ⟨o, ho⟩ : ∃ o : Int, o = (U : Int) + D := ⟨_, rfl⟩
  rw [show ((U + D : Nat) : Int) = (U : Int) + D by push_cast; rfl, ← ho] at hS
  rw [← ho] at H hbk ⊢
  clear ho u2 d6 d3
  have HEND := Lib.hid hend
  clear hend
  go_enter Try.func16, Try.ntmps16
  go_upto_region 1 with fail
  go_cut [1] (fun s1 wc => s1 = .int .i64 (N : Nat) ∧ wc = w.alloc (.cells #[.int .i64 o, .int .i64 U, .int .i64 C] 23))
  case first =>
    rcases hsz with ⟨h1, rfl⟩ | ⟨h1, rfl⟩ | ⟨h1, h2, rfl⟩
    all_goals
      go_wp2_with fail
      go_meet
      exact ⟨rfl, rfl⟩
  case rest =>
    obtain ⟨rfl, rfl⟩ := hcut
    clear hsz
    have d1 : decide ((B : Int) < 0) = false := dec_no (by omega)
    have d2 : decide (1048576 < (B : Int)) = false := dec_no (by omega)
    go_wp2_with fail
    refine (shape_any _ _ _ _).mono ?_
    rintro e w1 ⟨rfl, rfl⟩
    rw [H.out]
    go_wp2_with fail
    go_loopg [7] S (fun gk v wr => ∃ (n : Nat), n = gk ∧ n ≤ S ∧ v = .int .i64 (n : Nat) ∧ Below w.heap.size w wr ∧ wr.heap[w.heap.size]? = some (.cells #[.int .i64 o, .int .i64 U, .int .i64 C] 23 (0, 0)) ∧ Hid (∀ m, n ≤ m → m < S → N ≤ bk P Q C B m))
    case atStart => exact ⟨S, rfl, Nat.le_refl _, rfl, by repeat (first | with_reducible exact Below.refl _ _ | with_reducible refine Below.alloc ?_ (by simp <;> omega) _), (blk_old (by simp)).trans (blk_new rfl), Lib.hid (fun m h1 h2 => by omega)⟩
    case round =>
      obtain ⟨n, hgk, hn, rfl, hb, hc, HI⟩ := hrel
      subst hgk
      have fc := blk_cell hc
      have hz := blk_lt hc
      by_cases h0 : n = 0
      · subst h0
        have e0 := HEND.out 0 (by omega) HI.out (.inl rfl)
        have HE0 := Lib.hid e0
        clear e0
        go_wp2_with fail
        go_ret
        exact ⟨ret_int (by rw [HE0.out]), hb⟩
      · have hpos : 0 < n := by omega
        have hdec : decide (0 < (n : Int)) = true := dec_yes (by omega)
        go_wp2_with fail
        refine (hbk (n - 1) ((n : Int) - 1) (by omega) (by omega) _).mono ?_
        rintro e w2 ⟨rfl, hb2⟩
        obtain ⟨x, hx⟩ : ∃ x, bk P Q C B (n - 1) = x := ⟨_, rfl⟩
        rw [hx]
        have HX := Lib.hid hx
        have hc2 := (hb2.block _ hz).trans hc
        have fc2 := blk_cell hc2
        have hz2 := blk_lt hc2
        have hbb := hb.trans (hb2.mono hb.size)
        clear hx hc fc hz hb2 hb
        by_cases hm : N ≤ x
        · have e1 : decide ((N : Int) ≤ (x : Int)) = true := dec_yes (by omega)
          go_wp2_with fail
          go_roundg (n - 1)
          case measure => omega
          case rel => exact ⟨n - 1, rfl, by omega, by rw [show ((n - 1 : Nat) : Int) = (n : Int) - 1 by omega], hbb, hc2, Lib.hid (fun m h1 h2 => by
              by_cases h3 : n ≤ m
              · exact HI.out m h3 h2
              · obtain rfl : m = n - 1 := by omega
                rw [HX.out]; exact hm)⟩
        · have e1 : decide ((N : Int) ≤ (x : Int)) = false := dec_no (by omega)
          have e0 := HEND.out n hn HI.out (.inr (by rw [HX.out]; omega))
          have HE0 := Lib.hid e0
          clear e0
          go_wp2_with fail
          go_ret
          exact ⟨ret_int (by rw [HE0.out]), hbb⟩
end Go.Proofs.Ytjbfkpajplmmgaa
