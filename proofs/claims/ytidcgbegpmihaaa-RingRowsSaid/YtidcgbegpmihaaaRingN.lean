/- How many sets more a row begins: the walk. -/
import Derived.Test.YtidcgbegpmihaaaRingL
namespace Go.Proofs.Ytidcgbegpmihaaa
open Go.RowKit

set_option maxRecDepth 20000 in
set_option maxHeartbeats 1000000 in
theorem need_any (sp st sz s0 t0 t1 t2 t3 q : Int) (A : Option Addr) (n c : Nat) (l : List Int) (w : World) (h : Reads w w.heap.size 1 A n c (cells .i64 l)) (hn : n ≤ 1000) (h0 : 1 ≤ q) (h1 : q ≤ 1099511627776) :
    Calls Try.prog 19 #[.agg #[.int .i64 sp, .int .i64 st, .int .i64 sz], .agg #[.int .i64 s0, .int .i64 t0, .int .i64 t1, .int .i64 t2, .int .i64 t3], .int .i64 q, .slice A n c] w fun e w' =>
      e = .returned (.int .i64 (needM sp st sz (s0, t0, t1, t2, t3) q l)) ∧ Below w.heap.size w w' := by
  have d2 : decide (1099511627776 < q) = false := dec_no (by omega)
  go_enter Try.func19, Try.ntmps19
  go_wp2_with fail
  go_loopg [9, 18] n (fun gk v i wr => ∃ (k : Nat) (s u0 u1 u2 u3 : Int) (ps : List (Int × Int)) (cnt : Nat), k + gk = n ∧ i = .int .i64 (k : Nat) ∧ v = .int .i64 (cnt : Nat) ∧
      Below w.heap.size w wr ∧
      wr.heap[w.heap.size]? = some (.cells #[.int .i64 sp, .int .i64 st, .int .i64 sz] 23 (0, 0)) ∧ wr.heap[w.heap.size + 1]? = some (.cells #[.int .i64 s, .int .i64 u0, .int .i64 u1, .int .i64 u2, .int .i64 u3] 26 (0, 0)) ∧
      Hid (runM sp st sz (s0, t0, t1, t2, t3) q (l.take k) = some ((s, u0, u1, u2, u3), ps, cnt)))
  case atStart =>
    refine ⟨0, s0, t0, t1, t2, t3, [], 0, by omega, rfl, rfl, ?_, ?_, ?_, Lib.hid rfl⟩
    · exact ((Below.refl _ _).alloc (Nat.le_refl _) _).alloc (by simp) _
    · rw [blk_old (by simp)]; exact blk_new rfl
    · exact blk_new (by simp)
  case round =>
    obtain ⟨k, s, u0, u1, u2, u3, ps, cnt, hk, rfl, rfl, hb, hc0, hc1, HR⟩ := hrel
    have HK := Lib.hid hk
    have hkn : k ≤ n := by omega
    have hcn : cnt ≤ 1000 := by have := (runM_length HR.out).2; rw [List.length_take] at this; omega
    clear hk
    by_cases hlt : k < n
    · obtain ⟨b, o, x, rfl, hbb, hx, hc⟩ := (h.below hb).at_ hlt
      have HX := Lib.hid hx
      clear hx
      have f0 := blk_cell hc0
      have f1 := blk_cell hc1
      go_wp2_with fail
      refine (put_any _ _ _ _ _ _ _ _ _ _ _).mono ?_
      rintro e w1 ⟨g0, g1, g2, g3, g4, p0, p1, nx, ok, rfl, hM, hb1⟩
      have HM := Lib.hid hM
      have hz := blk_lt hc1
      have k0 := (hb1.block _ (by omega)).trans hc0
      have k1 := (hb1.block _ (by omega)).trans hc1
      have hbx := hb.trans (hb1.mono hb.size)
      have hzw : w.heap.size + 1 < w1.heap.size := blk_lt k1
      have hzw1 : w.heap.size < w1.heap.size := by omega
      have hzw2 : w.heap.size + 1 < w1.heap.size + 1 := by omega
      have fw1 := blk_cell k1
      have fz1 := blk_frozen k1
      clear hM f0 f1 hc hc0 hc1 hb1 hb
      cases ok
      · go_wp2_with fail
        go_ret
        have hstop := runM_stop HX.out HR.out HM.out
        have : needM sp st sz (s0, t0, t1, t2, t3) q l = 0 := by unfold needM; rw [hstop]; split <;> rfl
        rw [this]
        exact ⟨rfl, by repeat (first | with_reducible exact hbx | with_reducible refine Below.drew ?_ | with_reducible refine Below.alloc ?_ (by first | omega | (simp <;> omega)) _)⟩
      · cases nx
        all_goals
          go_wp2_with fail
          go_roundg (n - (k + 1))
          case measure => have := HK.out; omega
          case rel =>
            refine ⟨k + 1, g0, g1, g2, g3, g4, _, _, by omega, by go_num, ?_, ?_, ?_, ?_, Lib.hid (runM_step HX.out HR.out HM.out)⟩
            · simp
            · repeat (first | with_reducible exact hbx | with_reducible refine Below.drew ?_ | with_reducible refine Below.setCell ?_ (by first | omega | (simp <;> omega)) _ | with_reducible refine Below.alloc ?_ (by first | omega | (simp <;> omega)) _)
            · rw [blk_old (by simp <;> omega), blk_old (by simp <;> omega)]
              exact blk_far (blk_far (blk_far (blk_far (blk_far k0 (by simp) _) (by simp) _) (by simp) _) (by simp) _) (by simp) _
            · rw [blk_old (by simp <;> omega), blk_old (by simp <;> omega)]
              exact blk_set (blk_set (blk_set (blk_set (blk_set k1 0 _) 1 _) 2 _) 3 _) 4 _
    · obtain rfl : k = n := by omega
      go_wp2_with fail
      go_ret
      refine ⟨ret_int ?_, hb⟩
      have hl := h.length
      have hr := HR.out
      rw [List.take_of_length_le (by omega)] at hr
      unfold needM
      rw [hr, if_pos ⟨h0, h1⟩]
end Go.Proofs.Ytidcgbegpmihaaa
