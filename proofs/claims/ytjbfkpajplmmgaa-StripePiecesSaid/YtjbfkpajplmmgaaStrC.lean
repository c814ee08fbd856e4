/- The closed example of the pieces; known. -/
import Derived.Test.YtjbfkpajplmmgaaStrB
namespace Go.Proofs.Ytjbfkpajplmmgaa
open Go.RowKit
theorem info35 : (Try.prog.info? 35).map (fun i => (i.zero, i.size, i.bytes)) = some (some (.agg #[.int .i64 0, .int .i64 0, .int .i64 0, .int .i64 0]), 4, 32) := by kernel_rfl

set_option maxHeartbeats 1000000 in
theorem map08 (w : World) : Calls Try.prog 12 #[.agg #[.int .i64 3, .int .i64 2, .int .i64 2], .int .i64 0, .int .i64 8] w fun e w' =>
    ∃ A c, e = .returned (.slice A 2 c) ∧ w'.ownsRow w.heap.size 35 4 (.slice A 2 c) 2 [.int .i64 0, .int .i64 0, .int .i64 4, .int .i64 0, .int .i64 1, .int .i64 0, .int .i64 4, .int .i64 4] ∧ Below w.heap.size w w' := by
  obtain ⟨i0, hi0, hz0, hz1, hz2⟩ := info_parts info35
  have hs : shapeL 3 2 2 = true := by decide
  have q0 : bits .and .i64 0 3 = 0 := i64_mask 2 (by decide) 0 3 (by decide)
  have q4 : bits .and .i64 4 3 = 0 := i64_mask 2 (by decide) 4 3 (by decide)
  go_enter Try.func12, Try.ntmps12
  go_wp2_with fail
  refine (shape_any _ _ _ _).mono ?_
  rintro e w1 ⟨rfl, rfl⟩
  rw [hs]
  go_wp2_with fail
  refine wp_loop_rounds 3 ?_
  rw [rounds_succ]
  go_wp2_with fail
  refine (placeK 0 _ 0 0 rfl (by decide) (by decide) (by decide) _).mono ?_
  rintro e wa ⟨rfl, hb⟩
  have hxwa : wa.heap[w.heap.size]? = some (.cells #[.int .i64 3, .int .i64 2, .int .i64 2] 23 (0, 0)) := (hb.block _ (by simp <;> omega)).trans ((blk_old (by simp <;> omega)).trans (blk_new rfl))
  have fxwa := blk_cell hxwa
  have hzwa : w.heap.size < wa.heap.size := blk_lt hxwa
  have hwwa : Below w.heap.size w wa := Below.trans (B := w.heap.size) (a := w) (by repeat (first | with_reducible exact Below.refl _ _ | with_reducible assumption | with_reducible refine Below.drew ?_ | with_reducible refine below_drewN ?_ _ | with_reducible refine Below.setCell ?_ (by first | omega | (simp <;> omega)) _ | with_reducible refine Below.alloc ?_ (by first | omega | (simp <;> omega)) _)) (hb.mono (by simp <;> omega))
  clear hb
  go_wp2_with fail
  go_quiet (fail)
  obtain ⟨wb, hv⟩ : ∃ v, v = World.drewN wa nq := ⟨_, rfl⟩
  rw [← hv]
  have hxwb : wb.heap[w.heap.size]? = some (.cells #[.int .i64 3, .int .i64 2, .int .i64 2] 23 (0, 0)) := by rw [hv]; exact hxwa
  have fxwb := blk_cell hxwb
  have hzwb : w.heap.size < wb.heap.size := blk_lt hxwb
  have hwwb : Below w.heap.size w wb := by rw [hv]; exact below_drewN hwwa _
  clear hv hxwa fxwa hzwa hwwa
  go_wp2_with fail
  go_quiet (fail)
  obtain ⟨wc, hv⟩ : ∃ v, v = World.drewN wb nq := ⟨_, rfl⟩
  rw [← hv]
  have hxwc : wc.heap[w.heap.size]? = some (.cells #[.int .i64 3, .int .i64 2, .int .i64 2] 23 (0, 0)) := by rw [hv]; exact hxwb
  have fxwc := blk_cell hxwc
  have hzwc : w.heap.size < wc.heap.size := blk_lt hxwc
  have hwwc : Below w.heap.size w wc := by rw [hv]; exact below_drewN hwwb _
  clear hv hxwb fxwb hzwb hwwb
  go_wp2_with (at_builtin; go_loud (refine wpList_append_new wc _ _ rfl (.tmp 99) (.tmp 105) 28 rfl (w.heap.size + 1) 35 i0 _ 4 32 Try.underlying28 hi0 hz0 hz1 hz2 rfl (by decide) (.slice none 0 0) 0 [] rfl (World.ownsRow_nil _ _ _ _) 1 rfl rfl (by intro u hu; simp at hu; rcases hu with rfl | rfl | rfl | rfl <;> rfl) (by simp only [maxLen]; omega) (by omega) (by omega) ?_; intro A1 c1 wd hown hg hbd _))
  have howd : wd.ownsRow (w.heap.size + 1) 35 4 (.slice A1 1 c1) 1 [.int .i64 0, .int .i64 0, .int .i64 4, .int .i64 0] := hown
  have hxwd : wd.heap[w.heap.size]? = some (.cells #[.int .i64 3, .int .i64 2, .int .i64 2] 23 (0, 0)) := (hbd.block _ (by omega)).trans hxwc
  have fxwd := blk_cell hxwd
  have hzwd : w.heap.size < wd.heap.size := blk_lt hxwd
  have hwwd : Below w.heap.size w wd := hwwc.trans (hbd.mono (by omega))
  clear hown hg hbd hxwc fxwc hzwc hwwc
  go_wp2_with fail
  rw [rounds_succ]
  go_wp2_with fail
  refine (placeK 4 _ 1 0 rfl (by decide) (by decide) (by decide) _).mono ?_
  rintro e we ⟨rfl, hb⟩
  have hxwe := (hb.block _ (by omega)).trans hxwd
  have fxwe := blk_cell hxwe
  have hzwe : w.heap.size < we.heap.size := blk_lt hxwe
  have hwwe : Below w.heap.size w we := hwwd.trans (hb.mono (by omega))
  have howe := own_below howd hb (Nat.le_refl _)
  obtain ⟨g, rfl, hgb, hlwe, hcwe, -⟩ := own_at (j := 0) howe (u := .int .i64 0) rfl
  clear hb hxwd fxwd hzwd hwwd howd
  go_wp2_with fail
  go_quiet (fail)
  obtain ⟨wf, hv⟩ : ∃ v, v = World.drewN we nq := ⟨_, rfl⟩
  rw [← hv]
  have hxwf : wf.heap[w.heap.size]? = some (.cells #[.int .i64 3, .int .i64 2, .int .i64 2] 23 (0, 0)) := by rw [hv]; exact hxwe
  have fxwf := blk_cell hxwf
  have hzwf : w.heap.size < wf.heap.size := blk_lt hxwf
  have hwwf : Below w.heap.size w wf := by rw [hv]; exact below_drewN hwwe _
  have howf : wf.ownsRow (w.heap.size + 1) 35 4 (.slice (some ⟨g, 0, none⟩) 1 c1) 1 [.int .i64 0, .int .i64 0, .int .i64 4, .int .i64 0] := own_below howe (K := we.heap.size) (by rw [hv]; exact below_drewN (Below.refl _ _) _) (Nat.le_refl _)
  obtain ⟨g', eg, -, hlwf, hcwf, -⟩ := own_at (j := 0) howf (u := .int .i64 0) rfl
  cases eg
  clear hv hxwe fxwe hzwe hwwe howe hcwe hlwe
  go_wp2_with fail
  go_quiet (fail)
  obtain ⟨wg, hv⟩ : ∃ v, v = World.drewN wf nq := ⟨_, rfl⟩
  rw [← hv]
  have hxwg : wg.heap[w.heap.size]? = some (.cells #[.int .i64 3, .int .i64 2, .int .i64 2] 23 (0, 0)) := by rw [hv]; exact hxwf
  have fxwg := blk_cell hxwg
  have hzwg : w.heap.size < wg.heap.size := blk_lt hxwg
  have hwwg : Below w.heap.size w wg := by rw [hv]; exact below_drewN hwwf _
  have howg : wg.ownsRow (w.heap.size + 1) 35 4 (.slice (some ⟨g, 0, none⟩) 1 c1) 1 [.int .i64 0, .int .i64 0, .int .i64 4, .int .i64 0] := own_below howf (K := wf.heap.size) (by rw [hv]; exact below_drewN (Below.refl _ _) _) (Nat.le_refl _)
  obtain ⟨g', eg, -, hlwg, hcwg, -⟩ := own_at (j := 0) howg (u := .int .i64 0) rfl
  cases eg
  clear hv hxwf fxwf hzwf hwwf howf hcwf hlwf
  go_wp2_with (at_builtin; go_loud (refine wpList_append_new wg _ _ rfl (.tmp 99) (.tmp 105) 28 rfl (w.heap.size + 1) 35 i0 _ 4 32 Try.underlying28 hi0 hz0 hz1 hz2 rfl (by decide) (.slice (some ⟨g, 0, none⟩) 1 c1) 1 [.int .i64 0, .int .i64 0, .int .i64 4, .int .i64 0] rfl howg 1 rfl rfl (by intro u hu; simp at hu; rcases hu with rfl | rfl | rfl | rfl <;> rfl) (by simp only [maxLen]; omega) (by omega) (by omega) ?_; intro A2 c2 wh hown hg hbd _))
  rw [rounds_succ]
  go_wp2_with fail
  go_ret
  exact ⟨A2, c2, rfl, own_more hown (by omega), hwwg.trans (hbd.mono (by omega))⟩
end Go.Proofs.Ytjbfkpajplmmgaa
