/- Insert of one client: the walk. Conditions: those that each theorem states. -/
import Derived.Test.YtongakhcmdkeiaaClC
namespace Go.Proofs.Ytongakhcmdkeiaa
open Go.RowKit

theorem reads_blk3 {w : World} {g : Nat} {t : TypeId} {x y z : Value} (h : w.heap[g]? = some (.cells #[x, y, z] t (0, 0))) : Reads w w.heap.size 3 (some ⟨g, 0, none⟩) 1 1 [x, y, z] :=
  ⟨rfl, Nat.le_refl _, by simp [maxLen], fun e => (by cases e), fun _ => ⟨g, 0, rfl, blk_lt h, fun j u hu => by rw [Nat.zero_add, blk_cell h]; simpa using hu⟩⟩
theorem own_addr {w : World} {base size n c : Nat} {e : TypeId} {A : Option Addr} {xs : List Value} (h : w.ownsRow base e size (.slice A n c) n xs) : A = none ∧ n = 0 ∧ c = 0 ∨ ∃ g, A = some ⟨g, 0, none⟩ := by
  obtain ⟨h1, h2⟩ := h
  rcases h2 with ⟨hv, hn⟩ | ⟨g', cap, cur, hv, _⟩
  · injection hv with ha hb hc
    exact .inl ⟨ha, hb, hc⟩
  · injection hv with ha hb hc
    exact .inr ⟨g', ha⟩
theorem own_shape {w : World} {base size n c g : Nat} {e : TypeId} {xs : List Value} (h : w.ownsRow base e size (.slice (some ⟨g, 0, none⟩) n c) n xs) : w.shape? g = some (e, c * size) := by
  obtain ⟨hl, h2⟩ := h
  rcases h2 with ⟨hv, _⟩ | ⟨g', cap, cur, hv, hb, hg, hnc, hcm, hcs, ht⟩
  · cases hv
  · injection hv with ha hb' hc
    injection ha with ha
    injection ha with ha
    subst ha; subst hc
    simp [World.shape?, hg, hcs]
theorem blk_shape {w : World} {g : Nat} {t : TypeId} {cs : Array Value} (h : w.heap[g]? = some (.cells cs t (0, 0))) : w.shape? g = some (t, cs.size) := by simp [World.shape?, h]

set_option maxHeartbeats 1000000 in
theorem ins_end (B n c vb : Nat) (A : Option Addr) (xs : List Value) (x y z : Value) (w : World) (h : w.ownsRow B 42 3 (.slice A n c) n xs) (hn : n ≤ 1000) (hB : B ≤ w.heap.size)
    (hv : w.heap[vb]? = some (.cells #[x, y, z] 42 (0, 0))) (h1 : ∀ u ∈ [x, y, z], u.oneCell' = true) :
    Calls Try.prog 36 #[.slice A n c, .int .i64 (n : Nat), .slice (some ⟨vb, 0, none⟩) 1 1] w fun e w' => ∃ A' c', e = .returned (.slice A' (n + 1) c') ∧ w'.ownsRow B 42 3 (.slice A' (n + 1) c') (n + 1) (xs ++ [x, y, z]) ∧ Below B w w' := by
  obtain ⟨i0, hi0, hz0, hz1, hz2⟩ := info_parts info42
  have HV := Lib.hid (reads_blk3 hv)
  have H := Lib.hid h
  have H1 := Lib.hid h1
  rcases own_addr h with ⟨rfl, rfl, rfl⟩ | ⟨g, rfl⟩
  · clear h h1 hv
    go_enter Try.func36, Try.ntmps36
    go_wp2_with (at_builtin; go_loud (refine wpList_append_reads w rfl (.tmp 23) (.tmp 24) 24 rfl B 42 i0 _ 3 24 Try.underlying24 hi0 hz0 hz1 hz2 rfl (by decide) (.slice none 0 0) 0 xs rfl H.out w.heap.size _ 1 1 [x, y, z] rfl HV.out H1.out (by simp [maxLen]) (by omega) hB ?_; intro A' c' w1 h2 _ h4 _))
    go_ret
    exact ⟨A', c', rfl, h2, h4⟩
  · have hnc : n ≤ c := (own_room h).2.2.1
    clear h h1 hv
    go_enter Try.func36, Try.ntmps36
    go_wp2_with (at_builtin; go_loud (refine wpList_append_reads w rfl (.tmp 23) (.tmp 24) 24 rfl B 42 i0 _ 3 24 Try.underlying24 hi0 hz0 hz1 hz2 rfl (by decide) (.slice (some ⟨g, 0, none⟩) n c) n xs rfl H.out w.heap.size _ 1 1 [x, y, z] rfl HV.out H1.out (by simp [maxLen]; omega) (by omega) hB ?_; intro A' c' w1 h2 _ h4 _))
    all_goals
      go_ret
      exact ⟨A', c', rfl, h2, h4⟩

set_option maxHeartbeats 4000000 in
set_option maxRecDepth 100000 in
theorem ins_room (B g n c i vb : Nat) (xs : List Value) (x y z : Value) (w : World) (h : w.ownsRow B 42 3 (.slice (some ⟨g, 0, none⟩) n c) n xs) (hn : n ≤ 1000) (hi : i < n) (hr : n + 1 ≤ c) (h0 : ∀ u ∈ xs, u.oneCell' = true)
    (hv : w.heap[vb]? = some (.cells #[x, y, z] 42 (0, 0))) (h1 : ∀ u ∈ [x, y, z], u.oneCell' = true) (hne : vb ≠ g) :
    Calls Try.prog 36 #[.slice (some ⟨g, 0, none⟩) n c, .int .i64 (i : Nat), .slice (some ⟨vb, 0, none⟩) 1 1] w fun e w' => e = .returned (.slice (some ⟨g, 0, none⟩) (n + 1) c) ∧ w'.ownsRow B 42 3 (.slice (some ⟨g, 0, none⟩) (n + 1) c) (n + 1) (insV xs [x, y, z] i) ∧ w.grownBy w' (some g) := by
  obtain ⟨i0, hi0, hz0, hz1, hz2⟩ := info_parts info42
  have hs3 : (Try.prog.info? 42).map (·.size) = some 3 := by rw [hi0]; simp [hz1]
  obtain ⟨-, hgl, hnc, hcm, hroom⟩ := own_room h
  unfold maxLen at hcm
  obtain ⟨ys, hown, hy⟩ := own_one_more h hr
  have hxl := h.1
  have hsA := blk_shape hv
  have hsB := own_shape h
  have hsz : ∀ w, (Go.sizeOf 42).run Try.prog w = .ok 3 w := fun w => by simp [sizeOf, typeInfo, hi0, hz1]
  have hov : ∀ lb cb, (callFunc 42 #[.slice (some ⟨vb, 0, none⟩) 1 1, .slice (some ⟨g, (i + 1) * 3, none⟩) lb cb]).run Try.prog w = .ok (.value (.bool false)) w := fun lb cb => by
    rw [run_callFunc_extern (f := 42) (fn := Try.f42) (by kernel_rfl) (by kernel_rfl) (by kernel_rfl) (by kernel_rfl) (e := Extern.SlicesOverlaps.overlaps #[24, 24] #[4]) (by kernel_rfl),
      Lib.run_overlaps_apart w 24 4 42 Try.underlying24 3 hsz ⟨vb, 0, none⟩ ⟨g, (i + 1) * 3, none⟩ 1 1 lb cb hne 42 42 3 (c * 3) hsA hsB (by omega) (blk_frozen hv 0) (blk_frozen hv 3)]
    rfl
  have hdl : (xs.drop (i * 3)).length = (n - i) * 3 := by rw [List.length_drop, hxl]; omega
  obtain ⟨w1, hrun1, hown1, hg1⟩ := run_copy_owned (P := Try.prog) (w := w.drew) 24 24 3 ((i + 1) * 3) (n + 1 - (i + 1)) (c - (i + 1)) ⟨g, i * 3, none⟩ (n + 1 - i) (c - i) (xs.drop (i * 3)) hown.drew Try.underlying24 hs3 (by rw [hdl]; simp only [Nat.min_def]; split <;> omega)
    (fun j v hj => by
      rw [List.getElem?_drop] at hj
      obtain ⟨g', e, -, -, hcell, -⟩ := own_at h hj
      cases e
      rw [add_lit]
      exact hcell) (by rw [hdl]; omega) (fun u hu => h0 u (List.mem_of_mem_drop hu))
  have hv1 := (hg1.block vb (blk_lt hv) (by intro e; injection e with e; exact hne e)).trans hv
  obtain ⟨w2, hrun2, hown2, hg2⟩ := run_copy_owned (P := Try.prog) (w := w1) 24 24 3 (i * 3) (n + 1 - i) (c - i) ⟨vb, 0, none⟩ 1 1 [x, y, z] hown1 Try.underlying24 hs3 (by simp only [List.length_cons, List.length_nil, Nat.min_def]; split <;> omega)
    (fun j v hj => by rw [add_lit, Nat.zero_add, blk_cell hv1]; simpa using hj) (by simp only [List.length_cons, List.length_nil]; omega) h1
  rw [ins_shift hxl hy rfl (by omega)] at hown2
  have HO := Lib.hid hown2
  have HG : Hid (w.grownBy w2 (some g)) := Lib.hid ⟨hg2.os.trans hg1.os, hg2.tape.trans hg1.tape, hg2.output.trans hg1.output, Nat.le_trans hg1.size hg2.size, fun k hk hne => (hg2.block k (Nat.lt_of_lt_of_le hk hg1.size) hne).trans (hg1.block k hk hne)⟩
  have R1 := Lib.hid hrun1
  have R2 := Lib.hid hrun2
  have z2 : ¬ ((i : Int) = (n : Int)) := by omega
  have z3 : ¬ ((c : Int) < (n : Int) + 1) := by omega
  have hw1 : IntKind.i64.wrap ((i : Int) + 1) = (i : Int) + 1 := by rw [IntKind.wrap_i64]; omega
  have hb1 : (0 : Int) ≤ (i : Int) + 1 := by omega
  have hin : i ≤ n := by omega
  have htn : ((i : Int) + 1).toNat = i + 1 := by omega
  have hb2 : ¬ (c = i + 1) := by omega
  have hb3 : (i : Int) ≤ (n : Int) + 1 := by omega
  have hb4 : ¬ (c = i) := by omega
  clear hown2 hg2 hg1 hrun1 hrun2 hown1 hown hroom h h0 h1 hv hv1 hxl hdl hsA hsB
  go_enter Try.func36, Try.ntmps36
  go_wp2_with (simp only [hov])
  go_region_law (refine step_copy_run_ rfl _ _ 24 24 rfl _ _ (by simp [Act.eval, Act.put]) (by simp [Act.eval, Act.put]) R1.out ?_)
  have r2 := R2.out
  go_wp2_with (simp only [r2])
  go_ret
  exact ⟨rfl, HO.out, HG.out⟩

end Go.Proofs.Ytongakhcmdkeiaa
