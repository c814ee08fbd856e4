/- Clone, Delete of one, Insert of one client: the walks. Conditions: those that each theorem states. -/
import Derived.Test.YtongakhcmdkeiaaClA
import Derived.Lib.Overlaps
import Derived.Lib.AppendZerosOnto
namespace Go.Proofs.Ytongakhcmdkeiaa
open Go.RowKit
theorem info42 : (Try.prog.info? 42).map (fun i => (i.zero, i.size, i.bytes)) = some (some (.agg #[.int .i64 0, .int .i64 0, .bool false]), 3, 24) := by kernel_rfl
theorem zero42 (w : World) : (zeroValue 42).run Try.prog w = .ok (.agg #[.int .i64 0, .int .i64 0, .bool false]) w := by kernel_rfl

theorem clone_any (A : Option Addr) (n c : Nat) (xs : List Value) (w : World) (h : Reads w w.heap.size 3 A n c xs) (h1 : ∀ u ∈ xs, u.oneCell' = true) (hn : n ≤ 1000000) :
    Calls Try.prog 37 #[.slice A n c] w fun e w' => ∃ A' c', e = .returned (.slice A' n c') ∧ w'.ownsRow w.heap.size 42 3 (.slice A' n c') n xs ∧ Below w.heap.size w w' := by
  obtain ⟨i0, hi0, hz0, hz1, hz2⟩ := info_parts info42
  have hnil := fun (w : World) (A : Option Addr) (n c : Nat) => Lib.run_eql_slice_nil (P := Try.prog) w 24 42 A n c 0 0 Try.underlying24
  rcases A with _ | ad
  · obtain rfl : c = 0 := h.2.2.2.1 rfl
    obtain rfl : n = 0 := by have := h.le; omega
    have hl : xs = [] := List.eq_nil_of_length_eq_zero (by rw [h.len])
    subst hl
    go_enter Try.func37, Try.ntmps37
    go_wp2_with fail
    go_ret
    exact ⟨none, 0, rfl, World.ownsRow_nil _ _ _ _, Below.refl _ _⟩
  · go_enter Try.func37, Try.ntmps37
    go_wp2_with (at_builtin; go_loud (refine wpList_append_reads _ rfl (.tmp 5) (.tmp 6) 24 rfl w.heap.size 42 i0 _ 3 24 Try.underlying24 hi0 hz0 hz1 hz2 rfl (by decide) (.slice (some ⟨w.heap.size, 0, none⟩) 0 0) 0 [] rfl (World.ownsRow_made w #[] 0 (Nat.le_refl _) (Nat.zero_le _) (by simp)) w.heap.size _ n c xs rfl (h.alloc (Nat.le_refl _) _) h1 (by simp only [maxLen]; omega) (by omega) (by simp) ?_; intro A' c' w1 h2 _ h4 _))
    rw [Nat.zero_add, List.nil_append] at h2
    go_wp2_with fail
    go_ret
    exact ⟨A', c', rfl, h2, Below.trans (B := w.heap.size) (a := w) ((Below.refl _ _).alloc (Nat.le_refl _) _) h4⟩

set_option maxHeartbeats 1000000 in
theorem del_any (B g n c i : Nat) (xs : List Value) (w : World) (h : w.ownsRow B 42 3 (.slice (some ⟨g, 0, none⟩) n c) n xs) (h1 : ∀ u ∈ xs, u.oneCell' = true) (hi : i < n) :
    Calls Try.prog 39 #[.slice (some ⟨g, 0, none⟩) n c, .int .i64 (i : Nat), .int .i64 ((i : Int) + 1)] w fun e w' => e = .returned (.slice (some ⟨g, 0, none⟩) (n - 1) c) ∧
      w'.ownsRow B 42 3 (.slice (some ⟨g, 0, none⟩) (n - 1) c) (n - 1) (xs.take (i * 3) ++ xs.drop ((i + 1) * 3)) ∧ w.grownBy w' (some g) := by
  obtain ⟨i0, hi0, hz0, hz1, hz2⟩ := info_parts info42
  obtain ⟨m, hm⟩ : ∃ m, n = m + 1 := ⟨n - 1, by omega⟩
  have HM := Lib.hid hm
  clear hm
  obtain ⟨-, hgl, hnc, hcm, hroom⟩ := own_room h
  unfold maxLen at hcm
  obtain ⟨news, hnews⟩ : ∃ news, news = xs.drop ((i + 1) * 3) := ⟨_, rfl⟩
  have hxl := h.1
  have hlen : news.length = (n - (i + 1)) * 3 := by rw [hnews, List.length_drop, hxl]; omega
  obtain ⟨A, hA, hsrc⟩ : ∃ A : Addr, (if c = i + 1 then some (⟨g, 0, none⟩ : Addr) else some ⟨g, (i + 1) * 3, none⟩) = some A ∧ Hid (∀ t u, news[t]? = some u → w.drew.cell? (A.add t) = some u) := by
    by_cases hc : c = i + 1
    · refine ⟨⟨g, 0, none⟩, by simp [hc], fun t u hu => ?_⟩
      have h0 : news.length = 0 := by rw [hlen]; omega
      rw [List.length_eq_zero_iff.1 h0] at hu
      simp at hu
    · refine ⟨⟨g, (i + 1) * 3, none⟩, by simp [hc], fun t u hu => ?_⟩
      rw [hnews, List.getElem?_drop] at hu
      obtain ⟨g', e, -, -, hcell, -⟩ := own_at h hu
      cases e
      rw [add_lit]
      exact hcell
  have s1 : Hid (news.length = (n - (i + 1)) * 3) := hlen
  have s2 : Hid (∀ u ∈ news, u.oneCell' = true) := fun u hu => h1 u (by rw [hnews] at hu; exact List.mem_of_mem_drop hu)
  have hp : w.drew.ownsRow B 42 3 (.slice (some ⟨g, 0, none⟩) i c) i (xs.take (i * 3)) := (own_prefix h (by omega)).drew
  have HP := Lib.hid hp
  have HN := Lib.hid hnews
  have HH := Lib.hid h
  have HX := Lib.hid hxl
  clear hp hnews hlen h hroom h1 hxl
  have hne : ((i : Int) == (i : Int) + 1) = false := by simp; omega
  have hic : i ≤ c := by omega
  have hjc : i + 1 ≤ c := by omega
  have b1 : (0 : Int) ≤ (i : Int) + 1 := by omega
  have b2 : (i : Int) + 1 ≤ (n : Int) := by omega
  have b3 : ((i : Int) + 1).toNat = i + 1 := by omega
  go_enter Try.func39, Try.ntmps39
  go_wp2_with fail
  go_region_law (refine step_append_fits rfl (.tmp 22) (.tmp 25) 24 rfl B 42 i0 3 Try.underlying24 hi0 hz1 g i c (xs.take (i * 3)) (by simp [Act.eval, Act.put]) HP.out A (n - (i + 1)) (c - (i + 1)) news (by simp [Act.eval, Act.put]) s1.out hsrc.out s2.out (by omega) ?_; intro w1 hw1 hg1)
  obtain rfl := HM.out
  rw [show i + (m + 1 - (i + 1)) = m by omega] at hw1 ⊢
  have hroom := (own_room hw1).2.2.2.2
  have hcl : ∀ ty, (Builtin.clear_ #[24] ty #[.slice (some ⟨g, m * 3, none⟩) 1 (c - m)]).run Try.prog w1 = .ok (.tuple #[]) (w1.setCells g (m * 3) [.int .i64 0, .int .i64 0, .bool false]) := fun ty =>
    run_clear_one w1 24 42 ty _ Try.underlying24 zero42 [.int .i64 0, .int .i64 0, .bool false] rfl (by decide) (by intro u hu; simp at hu; rcases hu with rfl | rfl <;> rfl) g (m * 3) (c - m)
      (fun j hj => (hroom _ (by have : j < 3 := hj; omega)).1) (fun j hj => (hroom _ (by have : j < 3 := hj; omega)).2)
  have HW := Lib.hid hw1
  have HG := Lib.hid hg1
  have m1 : (0 : Int) ≤ (m : Int) := by omega
  have m2 : ¬ c = m := by omega
  clear hw1 hg1 hroom
  go_wp2_with fail
  go_ret
  refine ⟨rfl, ?_, ?_⟩
  · rw [← HN.out]; exact own_setCells_beyond _ HW.out (Nat.le_refl _)
  · have := HG.out
    exact grownBy_setCells _ ⟨this.os, this.tape, this.output, this.size, this.block⟩
end Go.Proofs.Ytongakhcmdkeiaa
