/- Scratch. -/
import Derived.Test.YtidcgbegpmihaaaRingE
import Derived.Test.YtidcgbegpmihaaaRingP
import Derived.Deep.RegionHeld3
namespace Go.Proofs.Ytidcgbegpmihaaa
open Go.RowKit
theorem info28 : (Try.prog.info? 28).map (fun i => (i.zero, i.size, i.bytes)) = some (some (.agg #[.int .i64 0, .int .i64 0]), 2, 16) := by kernel_rfl

theorem reads_new {w : World} {g : Nat} (hg : g = w.heap.size) (cs : Array Value) (e : TypeId) (size n : Nat) (hs : cs.size = n * size) (hm : n ≤ maxLen) :
    Reads (w.alloc (.cells cs e)) (g + 1) size (some ⟨g, 0, none⟩) n n cs.toList := by
  subst hg; exact Reads.new w cs e size n hs hm

/-- Behind an append onto an older row: two blocks that were made ahead of it, and the older ones, stand. -/
theorem after_append {w1 w2 : World} {O1 O2 O3 : Obj} {base n size : Nat} {e : TypeId} {v : Value} {xs : List Value} (hown : w1.ownsRow base e size v n xs)
    (hg : ((((w1.alloc O1).alloc O2).alloc O3).drew).grownBy w2 v.ownBlock) :
    w2.heap[w1.heap.size]? = some O1 ∧ w2.heap[w1.heap.size + 1]? = some O2 ∧ (∀ g, g < w1.heap.size → g < base → w2.heap[g]? = w1.heap[g]?) := by
  have hs : ((((w1.alloc O1).alloc O2).alloc O3).drew).heap.size = w1.heap.size + 1 + 1 + 1 := by simp
  have hne : ∀ g, w1.heap.size ≤ g → some g ≠ v.ownBlock := by
    intro g hg e
    have := (own_lt hown e.symm).2
    omega
  refine ⟨?_, ?_, ?_⟩
  · rw [hg.block _ (by rw [hs]; omega) (hne _ (Nat.le_refl _))]
    show (((w1.alloc O1).alloc O2).alloc O3).heap[w1.heap.size]? = _
    rw [blk_old (by simp; omega), blk_old (by simp)]
    exact blk_new rfl
  · rw [hg.block _ (by rw [hs]; omega) (hne _ (by omega))]
    show (((w1.alloc O1).alloc O2).alloc O3).heap[w1.heap.size + 1]? = _
    rw [blk_old (by simp)]
    exact blk_new (by simp)
  · intro g h1 h2
    rw [hg.block _ (by rw [hs]; omega) (fun e => by have := (own_lt hown e.symm).1; omega)]
    show (((w1.alloc O1).alloc O2).alloc O3).heap[g]? = _
    rw [blk_old (by simp; omega), blk_old (by simp; omega), blk_old h1]

set_option maxHeartbeats 1000000 in
theorem sets_any (sp st sz at_ : Int) (A : Option Addr) (n c : Nat) (l : List Int) (w : World) (h : Reads w w.heap.size 1 A n c (cells .i64 l)) (hn : n ≤ 1000) (h0 : 0 ≤ at_) (h1 : at_ ≤ 1099511627776) :
    Calls Try.prog 16 #[.agg #[.int .i64 sp, .int .i64 st, .int .i64 sz], .int .i64 at_, .slice A n c] w fun e w' =>
      ∃ A' c' q, e = .returned (.slice A' q c') ∧ w'.ownsRow w.heap.size 28 2 (.slice A' q c') q (pcells (setsM sp st sz at_ l)) ∧ Below w.heap.size w w' := by
  obtain ⟨i0, hi0, hz0, hz1, hz2⟩ := info_parts info28
  have d1 : decide (at_ < 0) = false := dec_no (by omega)
  have d2 : decide (1099511627776 < at_) = false := dec_no (by omega)
  go_enter Try.func16, Try.ntmps16
  go_wp2_with fail
  go_loopw [8, 9, 10, 11, 12, 13, 14, 23] (fun v _ _ _ _ _ _ i wr => ∃ (k : Nat) (A' : Option Addr) (c' : Nat) (s u0 u1 u2 u3 : Int) (ps : List (Int × Int)) (cnt : Nat), k ≤ n ∧ i = .int .i64 (k : Nat) ∧ v = .slice A' k c' ∧
      wr.ownsRow (w.heap.size + 2) 28 2 (.slice A' k c') k (pcells ps) ∧ Below w.heap.size w wr ∧
      wr.heap[w.heap.size]? = some (.cells #[.int .i64 sp, .int .i64 st, .int .i64 sz] 23 (0, 0)) ∧ wr.heap[w.heap.size + 1]? = some (.cells #[.int .i64 s, .int .i64 u0, .int .i64 u1, .int .i64 u2, .int .i64 u3] 26 (0, 0)) ∧
      runM sp st sz zF (at_ + 1) (l.take k) = some ((s, u0, u1, u2, u3), ps, cnt)) (fun _ _ _ _ _ _ _ i _ => n - (intOf i).toNat)
  case atStart =>
    refine ⟨0, none, 0, 0, 0, 0, 0, 0, [], 0, Nat.zero_le _, rfl, rfl, World.ownsRow_nil _ _ _ _, ?_, ?_, ?_, rfl⟩
    · exact ((Below.refl _ _).alloc (Nat.le_refl _) _).alloc (by simp) _
    · rw [blk_old (by simp)]; exact blk_new rfl
    · exact blk_new (by simp)
  case round =>
    obtain ⟨k, A', c', s, u0, u1, u2, u3, ps, cnt, hk, rfl, rfl, hown, hb, hc0, hc1, hrun⟩ := hrel
    have HR := Lib.hid hrun
    clear hrun
    by_cases hlt : k < n
    · obtain ⟨b, o, x, rfl, hbb, hx, hc⟩ := (h.below hb).at_ hlt
      have HX := Lib.hid hx
      clear hx
      have f0 := blk_cell hc0
      have f1 := blk_cell hc1
      go_wp2_with fail
      refine (put_any _ _ _ _ _ _ _ _ _ _ _).mono ?_
      rintro e w1 ⟨g0, g1, g2, g3, g4, p0, p1, nx, ok, rfl, hM, hb1⟩
      have HM := Lib.hid hM
      have hz := blk_lt hc1
      have k0 := (hb1.block _ (by omega)).trans hc0
      have k1 := (hb1.block _ (by omega)).trans hc1
      have hown1 := own_below hown hb1 (Nat.le_refl _)
      have hbx := hb.trans (hb1.mono hb.size)
      have hs1 := hb1.size
      clear hM f0 f1 hc hc0 hc1 hb1 hown hb
      cases ok
      · go_wp2_with fail
        go_ret
        have hstop := runM_stop HX.out HR.out (q := at_ + 1) (by have e : at_ + 1 + (k : Int) = at_ + 1 + k := rfl; exact HM.out)
        refine ⟨none, 0, 0, rfl, ?_, (hbx.alloc hbx.size _).alloc (by simp; have := hbx.size; omega) _⟩
        have : setsM sp st sz at_ l = [] := by unfold setsM; rw [hstop]; split <;> rfl
        rw [this]
        exact World.ownsRow_nil _ _ _ _
      · have hown1' := hown1
        have hzw : w.heap.size + 1 < w1.heap.size := by omega
        go_wp2_with fail
        go_region_law ((refine step_append_reads rfl (.tmp 44) (.tmp 46) 39 rfl (w.heap.size + 2) 28 i0 _ 2 16 Try.underlying39 hi0 hz0 hz1 hz2 rfl (by decide) (.slice A' k c') k (pcells ps) (by rfl) (World.ownsRow.drew (((hown1.alloc _).alloc _).alloc _)) (w1.heap.size + 1 + 1 + 1) (some ⟨w1.heap.size + 1 + 1, 0, none⟩) 1 1 [.int .i64 p0, .int .i64 p1] (by rfl) (Reads.drew (reads_new (by simp) #[.int .i64 p0, .int .i64 p1] 28 2 1 rfl (by decide))) (by intro u hu; simp at hu; rcases hu with rfl | rfl <;> rfl) (by simp only [maxLen]; omega) (by omega) (by simp; omega) ?_; intro A2 c2 w2 hown2 hg2 hb2 hat2; obtain ⟨m1, m2, m3⟩ := after_append hown1' hg2; have k2 := (m3 (w.heap.size + 1) hzw (by omega)).trans k1; have k3 := (m3 w.heap.size (by omega) (by omega)).trans k0; have f2 := blk_cell k2; have f3 := blk_cell m1; have f4 := blk_cell m2; have g2' := blk_frozen k2; have K2 := Lib.hid k2; have K3 := Lib.hid k3; have M2 := Lib.hid hown2; clear k2 k3 hg2 hat2 m1 m2 m3 hown2))
        go_wp2_with fail
        all_goals
          go_roundw
          case rel =>
            refine ⟨k + 1, A2, c2, g0, g1, g2, g3, g4, ps ++ [(p0, p1)], _, by omega, by go_num, rfl, ?_, ?_, ?_, ?_, runM_step HX.out HR.out HM.out⟩
            · rw [pcells_snoc]
              exact own_far (own_far (own_far (own_far (own_far M2.out (by simp) _) (by simp) _) (by simp) _) (by simp) _) (by simp) _
            · refine Below.setCell (Below.setCell (Below.setCell (Below.setCell (Below.setCell (Below.trans ?_ (hb2.mono (by omega))) (by simp) _) (by simp) _) (by simp) _) (by simp) _) (by simp) _
              exact (((hbx.alloc hbx.size _).alloc (by simp; have := hbx.size; omega) _).alloc (by simp; have := hbx.size; omega) _).drew
            · exact blk_far (blk_far (blk_far (blk_far (blk_far K3.out (by simp) _) (by simp) _) (by simp) _) (by simp) _) (by simp) _
            · exact blk_set (blk_set (blk_set (blk_set (blk_set K2.out 0 _) 1 _) 2 _) 3 _) 4 _
          case measure => simp [intOf]; omega
    · obtain rfl : k = n := by omega
      go_wp2_with fail
      go_ret
      refine ⟨A', c', k, rfl, ?_, hb⟩
      have hl := h.length
      have hr := HR.out
      rw [List.take_of_length_le (by omega)] at hr
      have : setsM sp st sz at_ l = ps := by unfold setsM; rw [hr, if_pos ⟨h0, h1⟩]
      rw [this]
      exact own_more hown (by omega)
end Go.Proofs.Ytidcgbegpmihaaa
