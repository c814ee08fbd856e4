/- Clone of bytes, Delete of one parcel: the walks. -/
import Derived.Test.YtpgadahijhfphaaProg
import Derived.Test.YtpgadahijhfphaaPostA
import Derived.Deep.DeepCutAuto
import Derived.Deep.LoopGhost
import Derived.Deep.RegionHeld3
namespace Go.Proofs.Ytpgadahijhfphaa
open Go.RowKit
theorem bool_of {p q : Bool} (h : p = true ↔ q = true) : p = q := by rw [Bool.eq_iff_iff]; exact h
theorem dec_yes {p : Prop} [Decidable p] (h : p) : decide p = true := decide_eq_true h
theorem dec_no {p : Prop} [Decidable p] (h : ¬ p) : decide p = false := decide_eq_false h
theorem info5 : (Try.prog.info? 5).map (fun i => (i.zero, i.size, i.bytes)) = some (some (.int .u8 0), 1, 1) := by kernel_rfl
theorem info35 : (Try.prog.info? 35).map (fun i => (i.zero, i.size, i.bytes)) = some (some (.agg #[.int .i64 0, .slice none 0 0]), 2, 32) := by kernel_rfl

theorem clone_any (A : Option Addr) (n c : Nat) (l : List Int) (w : World) (h : Reads w w.heap.size 1 A n c (cells .u8 l)) (hn : n ≤ 1000000) :
    Calls Try.prog 16 #[.slice A n c] w fun e w' => ∃ A' c', e = .returned (.slice A' n c') ∧ w'.ownsRow w.heap.size 5 1 (.slice A' n c') n (cells .u8 l) ∧ Below w.heap.size w w' := by
  obtain ⟨i0, hi0, hz0, hz1, hz2⟩ := info_parts info5
  have hnil := fun (w : World) (A : Option Addr) (n c : Nat) => Lib.run_eql_slice_nil (P := Try.prog) w 28 5 A n c 0 0 Try.underlying28
  rcases A with _ | ad
  · obtain rfl : c = 0 := h.2.2.2.1 rfl
    obtain rfl : n = 0 := by have := h.le; omega
    have hl : l = [] := List.eq_nil_of_length_eq_zero h.length
    subst hl
    go_enter Try.func16, Try.ntmps16
    go_wp2_with fail
    go_ret
    exact ⟨none, 0, rfl, World.ownsRow_nil _ _ _ _, Below.refl _ _⟩
  · go_enter Try.func16, Try.ntmps16
    go_wp2_with (at_builtin; go_loud (refine wpList_append_reads _ rfl (.tmp 5) (.tmp 6) 28 rfl w.heap.size 5 i0 _ 1 1 Try.underlying28 hi0 hz0 hz1 hz2 rfl (by decide) (.slice (some ⟨w.heap.size, 0, none⟩) 0 0) 0 [] rfl (World.ownsRow_lit (w := w) (base := w.heap.size) (e := 5) (size := 1) #[] 0 (Nat.le_refl _) (by decide) rfl) w.heap.size (some ad) n c _ rfl (h.alloc (Nat.le_refl _) _) (cells_oneCell _ _) (by simp only [maxLen]; omega) (by omega) (by simp) ?_; intro A' c' w' h2 h3 h4 h5))
    rw [Nat.zero_add, List.nil_append] at h2
    go_wp2_with fail
    go_ret
    exact ⟨A', c', rfl, h2, Below.trans (B := w.heap.size) (a := w) ((Below.refl _ _).alloc (Nat.le_refl _) _) h4⟩

theorem zero35 (w : World) : (zeroValue 35).run Try.prog w = .ok (.agg #[.int .i64 0, .slice none 0 0]) w := by kernel_rfl

set_option maxHeartbeats 1000000 in
theorem del_any (g n c i : Nat) (xs : List Value) (w : World) (h : w.ownsRow 0 35 2 (.slice (some ⟨g, 0, none⟩) n c) n xs) (h1 : ∀ u ∈ xs, u.oneCell' = true) (hi : i < n) :
    Calls Try.prog 17 #[.slice (some ⟨g, 0, none⟩) n c, .int .i64 (i : Nat), .int .i64 ((i : Int) + 1)] w fun e w' => e = .returned (.slice (some ⟨g, 0, none⟩) (n - 1) c) ∧
      w'.ownsRow 0 35 2 (.slice (some ⟨g, 0, none⟩) (n - 1) c) (n - 1) (xs.take (i * 2) ++ xs.drop ((i + 1) * 2)) ∧ w.grownBy w' (some g) := by
  obtain ⟨i0, hi0, hz0, hz1, hz2⟩ := info_parts info35
  obtain ⟨m, hm⟩ : ∃ m, n = m + 1 := ⟨n - 1, by omega⟩
  have HM := Lib.hid hm
  clear hm
  obtain ⟨-, hgl, hnc, hcm, hroom⟩ := own_room h
  unfold maxLen at hcm
  obtain ⟨news, hnews⟩ : ∃ news, news = xs.drop ((i + 1) * 2) := ⟨_, rfl⟩
  have hxl := h.1
  have hlen : news.length = (n - (i + 1)) * 2 := by rw [hnews, List.length_drop, hxl]; omega
  obtain ⟨A, hA, hsrc⟩ : ∃ A : Addr, (if c = i + 1 then some (⟨g, 0, none⟩ : Addr) else some ⟨g, (i + 1) * 2, none⟩) = some A ∧ Hid (∀ t u, news[t]? = some u → w.drew.cell? (A.add t) = some u) := by
    by_cases hc : c = i + 1
    · refine ⟨⟨g, 0, none⟩, by simp [hc], fun t u hu => ?_⟩
      have h0 : news.length = 0 := by rw [hlen]; omega
      rw [List.length_eq_zero_iff.1 h0] at hu
      simp at hu
    · refine ⟨⟨g, (i + 1) * 2, none⟩, by simp [hc], fun t u hu => ?_⟩
      rw [hnews, List.getElem?_drop] at hu
      obtain ⟨g', e, -, -, hcell, -⟩ := own_at h hu
      cases e
      rw [add_lit]
      exact hcell
  have s1 : Hid (news.length = (n - (i + 1)) * 2) := hlen
  have s2 : Hid (∀ u ∈ news, u.oneCell' = true) := fun u hu => h1 u (by rw [hnews] at hu; exact List.mem_of_mem_drop hu)
  have hp : w.drew.ownsRow 0 35 2 (.slice (some ⟨g, 0, none⟩) i c) i (xs.take (i * 2)) := (own_prefix h (by omega)).drew
  have HP := Lib.hid hp
  have HN := Lib.hid hnews
  have HH := Lib.hid h
  have HX := Lib.hid hxl
  clear hp hnews hlen h hroom h1 hxl
  have hne : ((i : Int) == (i : Int) + 1) = false := by simp; omega
  have hic : i ≤ c := by omega
  have hjc : i + 1 ≤ c := by omega
  have b1 : (0 : Int) ≤ (i : Int) + 1 := by omega
  have b2 : (i : Int) + 1 ≤ (n : Int) := by omega
  have b3 : ((i : Int) + 1).toNat = i + 1 := by omega
  go_enter Try.func17, Try.ntmps17
  go_wp2_with fail
  go_region_law (refine step_append_fits rfl (.tmp 22) (.tmp 25) 41 rfl 0 35 i0 2 Try.underlying41 hi0 hz1 g i c (xs.take (i * 2)) (by simp [Act.eval, Act.put]) HP.out A (n - (i + 1)) (c - (i + 1)) news (by simp [Act.eval, Act.put]) s1.out hsrc.out s2.out (by omega) ?_; intro w1 hw1 hg1)
  obtain rfl := HM.out
  rw [show i + (m + 1 - (i + 1)) = m by omega] at hw1 ⊢
  have hroom := (own_room hw1).2.2.2.2
  have hcl : ∀ ty, (Builtin.clear_ #[41] ty #[.slice (some ⟨g, m * 2, none⟩) 1 (c - m)]).run Try.prog w1 = .ok (.tuple #[]) (w1.setCells g (m * 2) [.int .i64 0, .slice none 0 0]) := fun ty =>
    run_clear_one w1 41 35 ty _ Try.underlying41 zero35 [.int .i64 0, .slice none 0 0] rfl (by decide) (by intro u hu; simp at hu; rcases hu with rfl | rfl <;> rfl) g (m * 2) (c - m)
      (fun j hj => (hroom _ (by have : j < 2 := hj; omega)).1) (fun j hj => (hroom _ (by have : j < 2 := hj; omega)).2)
  have HW := Lib.hid hw1
  have HG := Lib.hid hg1
  have m1 : (0 : Int) ≤ (m : Int) := by omega
  have m2 : ¬ c = m := by omega
  clear hw1 hg1 hroom
  go_wp2_with fail
  go_ret
  refine ⟨rfl, ?_, ?_⟩
  · rw [← HN.out]; exact own_setCells_beyond _ HW.out (Nat.le_refl _)
  · have := HG.out
    exact grownBy_setCells _ ⟨this.os, this.tape, this.output, this.size, this.block⟩
end Go.Proofs.Ytpgadahijhfphaa
