/- Insert of one client where there is no room: the walk. Conditions: those that each theorem states. -/
import Derived.Test.YtongakhcmdkeiaaClD
namespace Go.Proofs.Ytongakhcmdkeiaa
open Go.RowKit

theorem wpList_append_run_ {P : Program} (w : World) {ops : Array Oper} {rest : List Oper} {o : Oper} {a : Act} {Q : Exit → Act → World → Prop} (hgd : o.guard = none) (d s : Operand) (t t' : TypeId)
    (ho : o.op = .call { callee := .builtin .append, args := #[d, s], argTypes := #[t, t'] }) (v u : Value) (hd : a.eval d = v) (hs : a.eval s = u) {v' : Value} {w' : World}
    (hr : (Builtin.append_ #[t, t'] o.type #[v, u]).run P w = .ok v' w') (h : wpList P ops Q rest (a.put o.dst v') w') : wpList P ops Q (o :: rest) a w := by
  refine wpList_plain hgd fun K hK => ?_
  unfold Oper.wp execOp
  simp only [ho, resolve, invoke, builtin, Sem.run_bind, Sem.run_pure, Result.andThen_ok, List.map_toArray, List.map_cons, List.map_nil, hd, hs, hr]
  exact hK _ _ h
theorem own_new {w : World} {base n cap size : Nat} {e : TypeId} (cur : Array Value) (hb : base ≤ w.heap.size) (hm : cap ≤ maxLen) (hn : n ≤ cap) (hs : cur.size = cap * size) :
    (w.alloc (.cells cur e)).ownsRow base e size (.slice (some ⟨w.heap.size, 0, none⟩) n cap) n (cur.toList.take (n * size)) :=
  have hle : n * size ≤ cap * size := Nat.mul_le_mul_right _ hn
  ⟨by rw [List.length_take, Array.length_toList, hs]; exact Nat.min_eq_left hle, .inr ⟨w.heap.size, cap, cur, rfl, hb, heap_alloc_new w _, hn, hm, hs, rfl⟩⟩

set_option maxHeartbeats 4000000 in
set_option maxRecDepth 100000 in
theorem ins_grow_any (B g n c i vb : Nat) (xs : List Value) (x y z : Value) (w : World) (h : w.ownsRow B 42 3 (.slice (some ⟨g, 0, none⟩) n c) n xs) (hn : n ≤ 1000) (hi : i < n) (hr : c < n + 1) (h0 : ∀ u ∈ xs, u.oneCell' = true) (hB : B ≤ w.heap.size)
    (hv : w.heap[vb]? = some (.cells #[x, y, z] 42 (0, 0))) (h1 : ∀ u ∈ [x, y, z], u.oneCell' = true) :
    Calls Try.prog 36 #[.slice (some ⟨g, 0, none⟩) n c, .int .i64 (i : Nat), .slice (some ⟨vb, 0, none⟩) 1 1] w fun e w' => ∃ A' c', e = .returned (.slice A' (n + 1) c') ∧ w'.ownsRow B 42 3 (.slice A' (n + 1) c') (n + 1) (insV xs [x, y, z] i) ∧ Below B w w' := by
  obtain ⟨i0, hi0, hz0, hz1, hz2⟩ := info_parts info42
  have hs3 : (Try.prog.info? 42).map (·.size) = some 3 := by rw [hi0]; simp [hz1]
  obtain ⟨-, hgl, hnc, hcm, hroom⟩ := own_room h
  unfold maxLen at hcm
  have hxl := h.1
  have hdl : (xs.drop (i * 3)).length = (n - i) * 3 := by rw [List.length_drop, hxl]; omega
  have htl : (xs.take (i * 3)).length = i * 3 := by rw [List.length_take, hxl]; omega
  have hcell : ∀ j v, xs[j]? = some v → w.cell? ⟨g, j, none⟩ = some v := fun j v hj => by
    obtain ⟨g', e, -, -, hc, -⟩ := own_at h hj
    cases e
    exact hc
  have hold : (Builtin.firstCells i0.size i (.slice (some ⟨g, 0, none⟩) i c)).run Try.prog w.drew = .ok (xs.take (i * 3)).toArray w.drew := by
    rw [hz1]
    exact run_firstCells_some (w := w.drew) 3 i ⟨g, 0, none⟩ i c (xs.take (i * 3)) htl (fun j v hj => by
      rw [add_lit, Nat.zero_add]
      rw [List.getElem?_take] at hj
      split at hj
      · exact hcell j v hj
      · cases hj)
  have hrz := fun ty => Lib.run_append_grow_zeros (P := Try.prog) w 24 3 ty 42 i0 _ .i64 .i64 Try.underlying24 Try.underlying3 hi0 hz0 (some ⟨g, 0, none⟩) i c (xs.take (i * 3)) hold (n + 1 - i) (by omega) (by rw [hz1]; omega) (by omega) (by omega) (by rw [hz2]; omega) (growslice_fits (by omega) (by rw [hz2]; omega))
  rw [show i + (n + 1 - i) = n + 1 by omega] at hrz
  obtain ⟨G, hG⟩ : ∃ G, G = grownCap w (n + 1) c 42 := ⟨_, rfl⟩
  have hGn : n + 1 ≤ G := by rw [hG]; exact grownCap_ge w _ _ _
  have hG63 : G ≤ maxLen := by rw [hG]; exact grownCap_le_maxLen w (n + 1) c 42 (by unfold maxLen; omega)
  rw [← hG] at hrz
  obtain ⟨ROW, hROW⟩ : ∃ ROW : Array Value, ROW = (xs.take (i * 3)).toArray ++ Builtin.zeroCells (Value.agg #[.int .i64 0, .int .i64 0, .bool false]).cells (n + 1 - i) ++ Builtin.zeroCells (Value.agg #[.int .i64 0, .int .i64 0, .bool false]).cells (G - (n + 1)) := ⟨_, rfl⟩
  have hrz' : ∀ ty, (Builtin.append_ #[24, 3] ty #[.slice (some ⟨g, 0, none⟩) i c, .int .i64 ((n + 1 - i : Nat) : Int)]).run Try.prog w = .ok (.slice (some ⟨w.heap.size, 0, none⟩) (n + 1) G) (w.drew.alloc (.cells ROW 42)) := fun ty => by rw [hROW]; exact hrz ty
  have hRs : ROW.size = G * 3 := by
    rw [hROW]
    simp [Builtin.zeroCells, Value.cells, htl]
    omega
  have hown := own_new (w := w.drew) (base := B) (n := n + 1) (cap := G) (size := 3) (e := 42) ROW hB hG63 hGn hRs
  obtain ⟨zs, hzs, hzl⟩ : ∃ zs, ROW.toList.take ((n + 1) * 3) = xs.take (i * 3) ++ zs ∧ zs.length = (n + 1) * 3 - i * 3 := by
    refine ⟨(ROW.toList.take ((n + 1) * 3)).drop (i * 3), ?_, ?_⟩
    · have e : (ROW.toList.take ((n + 1) * 3)).take (i * 3) = xs.take (i * 3) := by
        rw [List.take_take, Nat.min_eq_left (by omega), hROW]
        simp only [Array.toList_append, List.append_assoc]
        rw [List.take_left' htl]
      rw [← e, List.take_append_drop]
    · rw [List.length_drop, List.length_take, Array.length_toList, hRs]; omega
  rw [hzs] at hown
  obtain ⟨W0, hW0⟩ : ∃ W0, W0 = w.drew.alloc (.cells ROW 42) := ⟨_, rfl⟩
  have hvW : W0.heap[vb]? = some (.cells #[x, y, z] 42 (0, 0)) := by rw [hW0]; exact (blk_old (w := w.drew) (blk_lt hv)).trans hv
  have hgW : ∀ j v, xs[j]? = some v → W0.cell? ⟨g, j, none⟩ = some v := fun j v hj => by rw [hW0, World.cell?_alloc_lt w.drew _ ⟨g, j, none⟩ hgl]; exact hcell j v hj
  have hzW : W0.heap.size = w.heap.size + 1 := by rw [hW0]; simp
  rw [← hW0] at hown hrz'
  obtain ⟨w1, hrun1, hown1, hg1⟩ := run_copy_owned (P := Try.prog) (w := W0) 24 24 3 (i * 3) (n + 1 - i) (G - i) ⟨vb, 0, none⟩ 1 1 [x, y, z] hown Try.underlying24 hs3 (by simp only [List.length_cons, List.length_nil, Nat.min_def]; split <;> omega)
    (fun j v hj => by rw [add_lit, Nat.zero_add, blk_cell hvW]; simpa using hj) (by simp only [List.length_cons, List.length_nil]; omega) h1
  have hg1' : ∀ j v, xs[j]? = some v → w1.drew.cell? ⟨g, j, none⟩ = some v := fun j v hj => (World.cell?_of_block (hg1.block g (by omega) (by intro e; injection e with e; have e' : g = w.heap.size := e; omega))).trans (hgW j v hj)
  obtain ⟨w2, hrun2, hown2, hg2⟩ := run_copy_owned (P := Try.prog) (w := w1.drew) 24 24 3 ((i + 1) * 3) (n + 1 - (i + 1)) (G - (i + 1)) ⟨g, i * 3, none⟩ (n - i) (c - i) (xs.drop (i * 3)) hown1.drew Try.underlying24 hs3 (by rw [hdl]; simp only [Nat.min_def]; split <;> omega)
    (fun j v hj => by
      rw [List.getElem?_drop] at hj
      rw [add_lit]
      exact hg1' _ v hj) (by rw [hdl]; omega) (fun u hu => h0 u (List.mem_of_mem_drop hu))
  rw [ins_grow hxl hzl rfl (by omega)] at hown2
  have HO := Lib.hid hown2
  have hbel : Below B w w2 := ⟨hg2.os.trans (hg1.os.trans (by rw [hW0]; rfl)), hg2.tape.trans (hg1.tape.trans (by rw [hW0]; rfl)), hg2.output.trans (hg1.output.trans (by rw [hW0]; rfl)), by have := hg1.size; have := hg2.size; have e : w1.drew.heap.size = w1.heap.size := rfl; omega,
    fun k hk => by
      have k1 : k < W0.heap.size := by omega
      have k2 : some k ≠ some w.drew.heap.size := by intro e; injection e with e; have e' : k = w.heap.size := e; omega
      exact (hg2.block k (Nat.lt_of_lt_of_le k1 hg1.size) k2).trans ((hg1.block k k1 k2).trans (by rw [hW0]; exact blk_old (w := w.drew) (Nat.lt_of_lt_of_le hk hB)))⟩
  have HG := Lib.hid hbel
  have R0 := Lib.hid hrz'
  have hr1 : (Builtin.copy_ #[24, 24] 3 #[.slice (some ⟨w.heap.size, i * 3, none⟩) (n + 1 - i) (G - i), .slice (some ⟨vb, 0, none⟩) 1 1]).run Try.prog W0 = .ok (goInt (Nat.min 1 (n + 1 - i))) w1 := hrun1
  have hr2 : (Builtin.copy_ #[24, 24] 3 #[.slice (some ⟨w.heap.size, (i + 1) * 3, none⟩) (n + 1 - (i + 1)) (G - (i + 1)), .slice (some ⟨g, i * 3, none⟩) (n - i) (c - i)]).run Try.prog w1.drew = .ok (goInt (Nat.min (n - i) (n + 1 - (i + 1)))) w2 := hrun2
  have R1 := Lib.hid hr1
  have R2 := Lib.hid hr2
  have z2 : ¬ ((i : Int) = (n : Int)) := by omega
  have z3 : (c : Int) < (n : Int) + 1 := by omega
  have hkk : (n : Int) + 1 - (i : Int) = ((n + 1 - i : Nat) : Int) := by omega
  have hw1 : IntKind.i64.wrap ((i : Int) + 1) = (i : Int) + 1 := by rw [IntKind.wrap_i64]; omega
  have hw2 : IntKind.i64.wrap ((n : Int) + 1 - (i : Int)) = ((n + 1 - i : Nat) : Int) := by rw [IntKind.wrap_i64]; omega
  have hb1 : (0 : Int) ≤ (i : Int) + 1 := by omega
  have hin : i ≤ n := by omega
  have htn : ((i : Int) + 1).toNat = i + 1 := by omega
  have hb2 : ¬ (G = i + 1) := by omega
  have hb3 : (i : Int) ≤ (n : Int) := by omega
  have hb4 : ¬ (G = i) := by omega
  have hb5 : ¬ (c = i) := by omega
  have hG64 : G ≤ 9223372036854775807 := by unfold maxLen at hG63; omega
  clear hown2 hg2 hg1 hrun1 hrun2 hr1 hr2 hown1 hown hroom h h0 h1 hv hxl hdl htl hcell hold hrz hrz' hG hG63 hROW hRs hzs hzl hvW hgW hg1' hbel hkk hW0 hzW
  go_enter Try.func36, Try.ntmps36
  have r1 := R1.out
  go_wp2_with (first | (at_builtin; go_loud (refine wpList_append_run_ w rfl (.tmp 34) (.tmp 39) 24 3 rfl _ _ rfl rfl (R0.out _) ?_)) | (simp only [r1]))
  have r2 := R2.out
  go_region_law (refine step_copy_run_ rfl _ _ 24 24 rfl _ _ (by simp [Act.eval, Act.put]) (by simp [Act.eval, Act.put]) r2 ?_)
  go_wp2_with fail
  go_ret
  exact ⟨_, _, rfl, HO.out, HG.out⟩
end Go.Proofs.Ytongakhcmdkeiaa
