/- Contracts of the functions that the laws of chapter 13 call: each says what the function computes, and that it writes nothing that was there before. Conditions: those that each theorem states.-/
import Derived.Test.YtmeodnpnbgaehaaProg
import Derived.Test.YtmeodnpnbgaehaaBase
namespace Go.Proofs.Ytmeodnpnbgaehaa
open Go.RowKit
theorem info3 : (Try.prog.info? 3).map (fun i => (i.zero, i.size, i.bytes)) = some (some (.int .i64 0), 1, 8) := by kernel_rfl
theorem info5 : (Try.prog.info? 5).map (fun i => (i.zero, i.size, i.bytes)) = some (some (.int .u8 0), 1, 1) := by kernel_rfl

def st3 (n : Int) : Bool := (n == 0 || n == 1 || n == 2)

theorem state_any (n : Int) (w : World) : Calls Try.prog 19 #[.int .i64 n] w fun e w' => e = .returned (.bool (st3 n)) ∧ w = w' := by
  go_enter Try.func19, Try.ntmps19
  go_wp2
  all_goals
    go_ret
    exact ⟨ret_bool (by simp [st3, *]), rfl⟩

def rightM (l : List Int) : Bool := l.all st3 && decide (l.length ≤ 512)
theorem right_no {l : List Int} {k : Nat} {x : Int} (hx : l[k]? = some x) (h : st3 x = false) : rightM l = false := by
  unfold rightM
  have : l.all st3 = false := by
    rw [List.all_eq_false]
    exact ⟨x, List.mem_of_getElem? hx, by simp [h]⟩
  simp [this]

theorem right_any (A : Option Addr) (n c : Nat) (l : List Int) (w : World) (h : Reads w w.heap.size 1 A n c (cells .i64 l)) :
    Calls Try.prog 13 #[.slice A n c] w fun e w' => e = .returned (.bool (rightM l)) ∧ w = w' := by
  have hbig := h.big
  go_enter Try.func13, Try.ntmps13
  go_wp2
  go_loop [4, 7] (fun x i => ∃ k : Nat, k ≤ n ∧ i = .int .i64 k ∧ (l.take k).all st3 = true) (fun _ i => n - (intOf i).toNat)
  case atStart => exact ⟨0, Nat.zero_le _, rfl, rfl⟩
  case round =>
    obtain ⟨k, hk, rfl, hall⟩ := hrel
    have Ha := Lib.hid hall
    clear hall
    by_cases hlt : k < n
    · obtain ⟨b, o, x, rfl, hb, hx, hc⟩ := h.at_ hlt
      have Hx := Lib.hid hx
      clear hx
      go_wp2_with (go_at_call 19; refine (state_any _ _).mono ?_; rintro e w' ⟨rfl, rfl⟩)
      · have hs : (!st3 x) = true := by assumption
        have hs : st3 x = false := by simpa using hs
        go_ret
        exact ⟨ret_bool (right_no Hx.out hs).symm, rfl⟩
      · have hs : (!st3 x) = false := by assumption
        have hs : st3 x = true := by simpa using hs
        go_round
        case rel => exact ⟨k + 1, by omega, by go_num, by rw [take_snoc Hx.out, List.all_append, Ha.out]; simp [hs]⟩
        case measure => simp [intOf]; omega
    · go_wp2
      go_ret
      refine ⟨ret_bool ?_, rfl⟩
      have := h.length
      have e := Ha.out
      rw [List.take_of_length_le (by omega)] at e
      simp [rightM, e, this]
      omega

def stOf (x : Int) : Int := (bits .and .i64 x 255).tmod 3

theorem states_any (A : Option Addr) (n c : Nat) (l : List Int) (w : World) (h : Reads w w.heap.size 1 A n c (cells .i64 l)) (hn : n ≤ 300) :
    Calls Try.prog 8 #[.slice A n c] w fun e w' => ∃ A' c', e = .returned (.slice A' n c') ∧ w'.ownsRow w.heap.size 3 1 (.slice A' n c') n (cells .i64 (l.map stOf)) ∧ Below w.heap.size w w' := by
  obtain ⟨i0, hi0, hz0, hz1, hz2⟩ := info_parts info3
  go_enter Try.func8, Try.ntmps8
  go_wp2
  go_loopw [3, 4] (fun v i wr => ∃ k A' c', k ≤ n ∧ i = .int .i64 (k : Nat) ∧ v = .slice A' k c' ∧ wr.ownsRow w.heap.size 3 1 (.slice A' k c') k (cells .i64 ((l.take k).map stOf)) ∧ Below w.heap.size w wr) (fun _ i _ => n - (intOf i).toNat)
  case atStart => exact ⟨0, none, 0, Nat.zero_le _, rfl, rfl, World.ownsRow_nil _ _ _ _, Below.refl _ _⟩
  case round =>
    obtain ⟨k, A', c', hk, rfl, rfl, hown, hb⟩ := hrel
    by_cases hlt : k < n
    · obtain ⟨b, o, x, rfl, hbb, hx, hc⟩ := (h.below hb).at_ hlt
      have Hx := Lib.hid hx
      clear hx
      go_wp2_with (at_builtin; refine wpList_append_new wr _ _ rfl (.tmp 11) (.tmp 18) 22 rfl w.heap.size 3 i0 _ 1 8 Try.underlying22 hi0 hz0 hz1 hz2 rfl (by decide) _ k _ rfl hown 1 rfl rfl (by intro u hu; simp at hu; subst hu; rfl) (by simp only [maxLen]; omega) (by omega) hb.size ?_; intro A1 c1 w1 hown1 hg1 hb1 _)
      go_roundw
      case rel =>
        refine ⟨k + 1, A1, c1, by omega, by go_num, rfl, ?_, hb.trans hb1⟩
        rw [take_snoc Hx.out, List.map_append, cells_append]
        exact hown1
      case measure => simp [intOf]; omega
    · obtain rfl : k = n := by omega
      go_wp2
      go_ret
      refine ⟨A', c', rfl, ?_, hb⟩
      have := h.length
      rw [List.take_of_length_le (by omega)] at hown
      exact hown

theorem same_any (A B : Option Addr) (n c m d : Nat) (l r : List Int) (w : World) (h : Reads w w.heap.size 1 A n c (cells .i64 l)) (h' : Reads w w.heap.size 1 B m d (cells .i64 r)) :
    Calls Try.prog 11 #[.slice A n c, .slice B m d] w fun e w' => e = .returned (.bool (decide (l = r))) ∧ ∃ k, w' = w.drewN k := by
  have hl := h.length
  have hr := h'.length
  have hbn := h.big
  have hbm := h'.big
  by_cases hnm : n = m
  · subst hnm
    have Hl := Lib.hid hl
    have Hr := Lib.hid hr
    clear hl hr
    go_enter Try.func11, Try.ntmps11
    go_wp2
    go_loopw [5] (fun i wr => ∃ k q, k ≤ n ∧ i = .int .i64 (k : Nat) ∧ wr = w.drewN q ∧ l.take k = r.take k) (fun i _ => n - (intOf i).toNat)
    case atStart => exact ⟨0, 0, Nat.zero_le _, rfl, rfl, rfl⟩
    case round =>
      obtain ⟨k, q, hk, rfl, rfl, ht⟩ := hrel
      have Ht := Lib.hid ht
      clear ht
      by_cases hlt : k < n
      · obtain ⟨b, o, x, rfl, hbb, hx, hc⟩ := h.at_ hlt
        obtain ⟨b', o', y, rfl, hbb', hy, hc'⟩ := h'.at_ hlt
        have Hx := Lib.hid hx
        have Hy := Lib.hid hy
        clear hx hy
        go_wp2
        go_quiet (fail)
        go_wp2
        · have hne : (x != y) = true := by assumption
          go_ret
          refine ⟨ret_bool ?_, q + nq, by simp⟩
          have : l ≠ r := by
            rintro rfl
            have e := Hx.out.symm.trans Hy.out
            injection e with e
            simp [e] at hne
          simp [this]
        · have hne : (x != y) = false := by assumption
          go_roundw
          case rel =>
            refine ⟨k + 1, q + nq, by omega, by go_num, by simp, ?_⟩
            rw [take_snoc Hx.out, take_snoc Hy.out, Ht.out]
            simp at hne
            rw [hne]
          case measure => simp [intOf]; omega
      · go_wp2
        go_ret
        refine ⟨ret_bool ?_, q, rfl⟩
        have e := Ht.out
        rw [List.take_of_length_le (by rw [Hl.out]; omega), List.take_of_length_le (by rw [Hr.out]; omega)] at e
        simp [e]
  · have hne : l ≠ r := by rintro rfl; omega
    go_enter Try.func11, Try.ntmps11
    go_wp2
    go_ret
    exact ⟨ret_bool (by simp [hne]), 0, rfl⟩

def atM (l : List Int) (i : Int) : Int := if 0 ≤ i then l.getD i.toNat 0 else 0
theorem atM_nat (l : List Int) (k : Nat) : atM l (k : Int) = l.getD k 0 := by simp [atM]
theorem atM_of {l : List Int} {k : Nat} {x : Int} (h : l[k]? = some x) : atM l (k : Int) = x := by simp [atM, h]
theorem atM_out {l : List Int} {i : Int} (h : i < 0 ∨ (l.length : Int) ≤ i) : atM l i = 0 := by
  unfold atM
  split
  · rw [List.getD_eq_getElem?_getD, List.getElem?_eq_none (by omega)]; rfl
  · rfl

theorem at_any (A : Option Addr) (n c : Nat) (i : Int) (l : List Int) (w : World) (h : Reads w w.heap.size 1 A n c (cells .i64 l)) :
    Calls Try.prog 14 #[.slice A n c, .int .i64 i] w fun e w' => e = .returned (.int .i64 (atM l i)) ∧ w = w' := by
  have hbn := h.big
  have hl := h.length
  by_cases h0 : i < 0
  · have hz := Lib.hid (atM_out (l := l) (i := i) (.inl h0))
    clear hl
    go_enter Try.func14, Try.ntmps14
    go_wp2
    go_ret
    exact ⟨ret_int hz.out.symm, rfl⟩
  · obtain ⟨k, rfl⟩ := Int.eq_ofNat_of_zero_le (by omega : 0 ≤ i)
    by_cases hlt : k < n
    · obtain ⟨b, o, x, rfl, hbb, hx, hc⟩ := h.at_ hlt
      have hz := Lib.hid (atM_of hx)
      clear hl hx
      go_enter Try.func14, Try.ntmps14
      go_wp2
      go_ret
      exact ⟨ret_int hz.out.symm, rfl⟩
    · have hz := Lib.hid (atM_out (l := l) (i := (k : Int)) (.inr (by omega)))
      clear hl
      go_enter Try.func14, Try.ntmps14
      go_wp2
      go_ret
      exact ⟨ret_int hz.out.symm, rfl⟩

theorem q22 : ∀ (w : World) (a : Option Addr) (n c n' c' : Nat), (binOp .eql 22 (.slice a n c) (.slice none n' c')).run Try.prog w = .ok (.bool a.isNone) w :=
  fun w a n c n' c' => Lib.run_eql_slice_nil w _ _ a n c n' c' Try.underlying22

theorem clone_any (A : Option Addr) (n c : Nat) (l : List Value) (w : World) (h : Reads w w.heap.size 1 A n c l) (h1 : ∀ u ∈ l, u.oneCell' = true) (hn : n * 8 ≤ 140737488355328) :
    Calls Try.prog 20 #[.slice A n c] w fun e w' => ∃ A' c', e = .returned (.slice A' n c') ∧ w'.ownsRow w.heap.size 3 1 (.slice A' n c') n l ∧ Below w.heap.size w w' := by
  obtain ⟨i0, hi0, hz0, hz1, hz2⟩ := info_parts info3
  have hq := q22
  rcases A with _ | ad
  · have hc0 := h.2.2.2.1 rfl
    have hle := h.le
    obtain rfl : n = 0 := by omega
    subst hc0
    have hl : l = [] := List.eq_nil_of_length_eq_zero (by simpa using h.1)
    subst hl
    go_enter Try.func20, Try.ntmps20
    go_wp2
    go_ret
    exact ⟨none, 0, rfl, World.ownsRow_nil _ _ _ _, Below.refl _ _⟩
  · go_enter Try.func20, Try.ntmps20
    go_wp2_with (at_builtin; refine wpList_append_reads _ rfl (.tmp 5) (.tmp 6) 22 rfl w.heap.size 3 i0 _ 1 8 Try.underlying22 hi0 hz0 hz1 hz2 rfl (by decide) (.slice (some ⟨w.heap.size, 0, none⟩) 0 0) 0 [] rfl (World.ownsRow_made w #[] 0 (Nat.le_refl _) (Nat.zero_le _) (by simp)) w.heap.size _ n c l rfl (h.alloc (Nat.le_refl _) _) h1 (by have := h.le; have := h.max; simp only [maxLen]; omega) (by omega) (by simp) ?_; intro A1 c1 w1 hown1 hg1 hb1 _)
    go_ret
    refine ⟨A1, c1, ?_, ?_, ((Below.refl _ _).alloc (Nat.le_refl _) _).trans hb1⟩
    · simp
    · simpa using hown1

def sizeM (l : List Int) (m : Nat) : List Int := l.take m ++ List.replicate (m - l.length) 0
def held (i : Int) : Nat := (max 0 (min i 512)).toNat
theorem size_eq (l : List Int) (m n : Nat) (hl : l.length = n) : (cells .i64 l).take m ++ (List.replicate m (Value.int .i64 0)).drop n = cells .i64 (sizeM l m) := by
  rw [cells_take, cells_replicate, cells_drop, ← cells_append, List.drop_replicate, sizeM, hl]

theorem size_any (A : Option Addr) (n c m : Nat) (i : Int) (l : List Int) (w : World) (h : Reads w w.heap.size 1 A n c (cells .i64 l)) (hm : held i = m) :
    Calls Try.prog 12 #[.slice A n c, .int .i64 i] w fun e w' => ∃ A' c', e = .returned (.slice A' m c') ∧ w'.ownsRow w.heap.size 3 1 (.slice A' m c') m (cells .i64 (sizeM l m)) ∧ Below w.heap.size w w' := by
  obtain ⟨i0, hi0, hz0, hz1, hz2⟩ := info_parts info3
  have HE := Lib.hid (size_eq l m n h.length)
  have hz3 : (Try.prog.info? 3).map (·.size) = some 1 := by rw [hi0]; simp [hz1]
  have HZ := Lib.hid hz3
  clear hz3
  have Hm := Lib.hid hm
  clear hm
  rcases (by omega : i ≤ 0 ∨ (0 < i ∧ i ≤ 512) ∨ 512 < i) with hi | ⟨h0, h512⟩ | h512
  · obtain rfl : m = 0 := by rw [← Hm.out]; unfold held; omega
    clear Hm
    have h1 : ¬ 512 < i := by omega
    have h2 : ¬ 0 < i := by omega
    go_enter Try.func12, Try.ntmps12
    go_wp2_with (first
      | (at_make; refine wpList_make_one _ rfl (.tmp 9) (.tmp 9) 22 rfl w.heap.size 3 i0 _ 8 Try.underlying22 hi0 hz0 hz1 hz2 rfl .i64 .i64 _ _ 0 rfl rfl rfl rfl (by decide) (by decide) (Nat.le_refl _) ?_; intro A1 c1 w1 hown1 hg1 hb1 _)
      | (with_reducible refine wpList_copy_reads rfl (.tmp 11) (.tmp 12) 22 22 rfl 3 Try.underlying22 HZ.out w.heap.size A1 0 c1 _ rfl hown1 w.heap.size A n c _ rfl (h.below hb1) (cells_oneCell _ _) ?_; intro w2 hown2 _ hb2))
    go_ret
    exact ⟨A1, c1, rfl, by rw [← HE.out]; exact hown2, hb1.trans hb2⟩
  · obtain ⟨m', rfl⟩ := Int.eq_ofNat_of_zero_le (by omega : 0 ≤ i)
    obtain rfl : m = m' := by rw [← Hm.out]; unfold held; omega
    clear Hm
    have h1 : ¬ (512 : Int) < (m : Int) := by omega
    have h2 : (0 : Int) < (m : Int) := by omega
    go_enter Try.func12, Try.ntmps12
    go_wp2_with (first
      | (at_make; refine wpList_make_one _ rfl (.tmp 9) (.tmp 9) 22 rfl w.heap.size 3 i0 _ 8 Try.underlying22 hi0 hz0 hz1 hz2 rfl .i64 .i64 _ _ m rfl rfl rfl rfl (by omega) (by simp only [maxLen]; omega) (Nat.le_refl _) ?_; intro A1 c1 w1 hown1 hg1 hb1 _)
      | (with_reducible refine wpList_copy_reads rfl (.tmp 11) (.tmp 12) 22 22 rfl 3 Try.underlying22 HZ.out w.heap.size A1 m c1 _ rfl hown1 w.heap.size A n c _ rfl (h.below hb1) (cells_oneCell _ _) ?_; intro w2 hown2 _ hb2))
    go_ret
    exact ⟨A1, c1, rfl, by rw [← HE.out]; exact hown2, hb1.trans hb2⟩
  · obtain rfl : m = 512 := by rw [← Hm.out]; unfold held; omega
    clear Hm
    go_enter Try.func12, Try.ntmps12
    go_wp2_with (first
      | (at_make; refine wpList_make_one _ rfl (.tmp 9) (.tmp 9) 22 rfl w.heap.size 3 i0 _ 8 Try.underlying22 hi0 hz0 hz1 hz2 rfl .i64 .i64 _ _ 512 rfl rfl rfl rfl (by omega) (by simp only [maxLen]; omega) (Nat.le_refl _) ?_; intro A1 c1 w1 hown1 hg1 hb1 _)
      | (with_reducible refine wpList_copy_reads rfl (.tmp 11) (.tmp 12) 22 22 rfl 3 Try.underlying22 HZ.out w.heap.size A1 512 c1 _ rfl hown1 w.heap.size A n c _ rfl (h.below hb1) (cells_oneCell _ _) ?_; intro w2 hown2 _ hb2))
    go_ret
    exact ⟨A1, c1, rfl, by rw [← HE.out]; exact hown2, hb1.trans hb2⟩

def frz (x : Int) : Int := if x = 1 then 2 else x
theorem frz_step {l : List Int} {k : Nat} {x : Int} (h : l[k]? = some x) : ((l.take k).map frz ++ l.drop k).set k (frz x) = (l.take (k + 1)).map frz ++ l.drop (k + 1) := by
  obtain ⟨hk, rfl⟩ := List.getElem?_eq_some_iff.1 h
  rw [List.set_append_right _ _ (by simp; omega), take_snoc h, List.map_append, List.append_assoc]
  congr 1
  have e : k - ((l.take k).map frz).length = 0 := by simp; omega
  rw [e, List.drop_eq_getElem_cons hk]
  rfl
theorem frz_keep {l : List Int} {k : Nat} {x : Int} (h : l[k]? = some x) (hx : x ≠ 1) : (l.take k).map frz ++ l.drop k = (l.take (k + 1)).map frz ++ l.drop (k + 1) := by
  obtain ⟨hk, rfl⟩ := List.getElem?_eq_some_iff.1 h
  rw [take_snoc h, List.map_append, List.append_assoc]
  congr 1
  rw [List.drop_eq_getElem_cons hk]
  simp [frz, hx]

theorem freeze_any (A : Option Addr) (n c : Nat) (l : List Int) (w : World) (h : Reads w w.heap.size 1 A n c (cells .i64 l)) (hn : n * 8 ≤ 140737488355328) :
    Calls Try.prog 16 #[.slice A n c] w fun e w' => ∃ A' c', e = .returned (.slice A' n c') ∧ w'.ownsRow w.heap.size 3 1 (.slice A' n c') n (cells .i64 (l.map frz)) ∧ Below w.heap.size w w' := by
  have hl := h.length
  have Hl := Lib.hid hl
  clear hl
  go_enter Try.func16, Try.ntmps16
  go_wp2_with fail
  refine (clone_any _ _ _ _ _ h (cells_oneCell _ _) hn).mono ?_
  rintro e w1 ⟨A1, c1, rfl, hown1, hb1⟩
  go_wp2
  go_loopw [4, 5, 10] (fun _ _ i wr => ∃ k, k ≤ n ∧ i = .int .i64 (k : Nat) ∧ wr.ownsRow w.heap.size 3 1 (.slice A1 n c1) n (cells .i64 ((l.take k).map frz ++ l.drop k)) ∧ Below w.heap.size w wr) (fun _ _ i _ => n - (intOf i).toNat)
  case atStart => exact ⟨0, Nat.zero_le _, rfl, by simpa using hown1, hb1⟩
  case round =>
    obtain ⟨k, hk, rfl, hown, hb⟩ := hrel
    clear hown1 hb1
    by_cases hlt : k < n
    · have hlk : k < l.length := by rw [Hl.out]; exact hlt
      obtain ⟨x, hx⟩ : ∃ x, l[k]? = some x := ⟨_, List.getElem?_eq_getElem hlk⟩
      obtain ⟨g, rfl, hbg, hgl, hc, hf⟩ := own_at hown (j := k) (u := .int .i64 x) (cells_get (by rw [List.getElem?_append_right (by simp; omega)]; simp [Nat.min_eq_left (Nat.le_of_lt hlk), hx]))
      have Hx := Lib.hid hx
      clear hx
      by_cases hx1 : x = 1
      · subst hx1
        go_wp2
        go_roundw
        case rel =>
          refine ⟨k + 1, by omega, by go_num, ?_, hb.setCell hbg _⟩
          have e := frz_step Hx.out
          rw [← e, ← cells_set]
          exact (own_set hown k _).1
        case measure => simp [intOf]; omega
      · go_wp2
        go_roundw
        case rel => exact ⟨k + 1, by omega, by go_num, by rw [← frz_keep Hx.out hx1]; exact hown, hb⟩
        case measure => simp [intOf]; omega
    · obtain rfl : k = n := by omega
      go_wp2
      go_ret
      refine ⟨A1, c1, rfl, ?_, hb⟩
      have e := Hl.out
      rw [List.take_of_length_le (by omega), List.drop_of_length_le (by omega), List.append_nil] at hown
      exact hown

theorem zero_alike {x y : Int} (h : x = 0 ↔ y = 0) : (x == 0) = (y == 0) := by rw [Bool.eq_iff_iff]; simp [h]
theorem zero_unlike {x y : Int} (h : ¬ (x = 0 ↔ y = 0)) : ((x == 0) == (y == 0)) = false := by
  rw [beq_eq_false_iff_ne]
  intro e
  rw [Bool.eq_iff_iff] at e
  simp at e
  exact h e
def diffP (a b : List Int) (i : Nat) : Bool := (atM b i == 1) || ((atM a i == 0) != (atM b i == 0))
def diffN (a b : List Int) (k : Nat) : List Nat := (List.range k).filter (diffP a b)
def diffM (a b : List Int) (k : Nat) : List Int := (diffN a b k).map Int.ofNat
theorem diff_yes {a b : List Int} {k : Nat} (h : diffP a b k = true) : diffM a b (k + 1) = diffM a b k ++ [(k : Int)] := by
  simp [diffM, diffN, List.range_succ, h]
theorem diff_no {a b : List Int} {k : Nat} (h : diffP a b k = false) : diffM a b (k + 1) = diffM a b k := by
  simp [diffM, diffN, List.range_succ, h]
theorem diff_len (a b : List Int) (k : Nat) : (diffM a b k).length ≤ k := by
  unfold diffM diffN
  rw [List.length_map]
  exact Nat.le_trans (List.length_filter_le _ _) (by simp)

theorem diff_any (A B : Option Addr) (n c m d : Nat) (l r : List Int) (w : World) (hA : Reads w w.heap.size 1 A n c (cells .i64 l)) (hB : Reads w w.heap.size 1 B m d (cells .i64 r)) (hn : n ≤ 1000) (hm : m ≤ 1000) :
    Calls Try.prog 15 #[.slice A n c, .slice B m d] w fun e w' => ∃ A' c' q, e = .returned (.slice A' q c') ∧ w'.ownsRow w.heap.size 3 1 (.slice A' q c') q (cells .i64 (diffM l r (max n m))) ∧ Below w.heap.size w w' := by
  obtain ⟨i0, hi0, hz0, hz1, hz2⟩ := info_parts info3
  go_enter Try.func15, Try.ntmps15
  go_wp2
  all_goals
    go_loopw [5, 6, 7, 8, 14] (fun v _ _ _ i wr => ∃ k A' c' q, k ≤ max n m ∧ q ≤ k ∧ i = .int .i64 (k : Nat) ∧ v = .slice A' q c' ∧ wr.ownsRow w.heap.size 3 1 (.slice A' q c') q (cells .i64 (diffM l r k)) ∧ Below w.heap.size w wr) (fun _ _ _ _ i _ => max n m - (intOf i).toNat)
    case atStart => exact ⟨0, none, 0, 0, Nat.zero_le _, Nat.le_refl _, rfl, rfl, World.ownsRow_nil _ _ _ _, Below.refl _ _⟩
    case round =>
      obtain ⟨k, A', c', q, hk, hq, rfl, rfl, hown, hb⟩ := hrel
      by_cases hlt : k < max n m
      · have hlt' : k < n ∨ k < m := by omega
        have hlt2 : k < m ∨ m ≤ n := by omega
        clear hlt
        obtain ⟨x, hx⟩ : ∃ x, atM l (k : Int) = x := ⟨_, rfl⟩
        obtain ⟨y, hy⟩ : ∃ y, atM r (k : Int) = y := ⟨_, rfl⟩
        have hP : diffP l r k = ((y == 1) || ((x == 0) != (y == 0))) := by rw [diffP, hx, hy]
        have HP := Lib.hid hP
        clear hP
        go_wp2_with fail
        refine (at_any _ _ _ _ _ _ ((hA.below hb).here (by decide))).mono ?_
        rintro e w' ⟨rfl, rfl⟩
        rw [hx]
        clear hx
        go_wp2_with fail
        refine (at_any _ _ _ _ _ _ ((hB.below hb).here (by decide))).mono ?_
        rintro e w' ⟨rfl, rfl⟩
        rw [hy]
        clear hy
        by_cases hy1 : y = 1
        · subst hy1
          have hd : diffP l r k = true := by rw [HP.out]; simp
          have HD := Lib.hid (diff_yes hd)
          clear hd HP
          go_wp2_with (at_builtin; refine wpList_append_new wr _ _ rfl (.tmp 32) (.tmp 34) 22 rfl w.heap.size 3 i0 _ 1 8 Try.underlying22 hi0 hz0 hz1 hz2 rfl (by decide) (.slice A' q c') q _ rfl hown 1 rfl rfl (by intro u hu; simp at hu; subst hu; rfl) (by simp only [maxLen]; omega) (by omega) hb.size ?_; intro A1 c1 w1 hown1 hg1 hb1 _)
          go_roundw
          case rel =>
            refine ⟨k + 1, A1, c1, q + 1, by omega, by omega, by go_num, rfl, ?_, hb.trans hb1⟩
            rw [HD.out, cells_append]
            exact hown1
          case measure => simp [intOf]; omega
        · by_cases hxy : (x = 0 ↔ y = 0)
          · have hd : diffP l r k = false := by
              rw [HP.out, zero_alike hxy]
              simp [hy1]
            have HD := Lib.hid (diff_no hd)
            clear hd HP
            have hxb := zero_alike hxy
            clear hxy
            go_wp2
            go_roundw
            case rel => exact ⟨k + 1, A', c', q, by omega, by omega, by go_num, rfl, by rw [HD.out]; exact hown, hb⟩
            case measure => simp [intOf]; omega
          · have hd : diffP l r k = true := by
              rw [HP.out, bne, zero_unlike hxy]
              simp
            have HD := Lib.hid (diff_yes hd)
            clear hd HP
            have hxb := zero_unlike hxy
            clear hxy
            go_wp2_with (at_builtin; refine wpList_append_new wr _ _ rfl (.tmp 32) (.tmp 34) 22 rfl w.heap.size 3 i0 _ 1 8 Try.underlying22 hi0 hz0 hz1 hz2 rfl (by decide) (.slice A' q c') q _ rfl hown 1 rfl rfl (by intro u hu; simp at hu; subst hu; rfl) (by simp only [maxLen]; omega) (by omega) hb.size ?_; intro A1 c1 w1 hown1 hg1 hb1 _)
            go_roundw
            case rel =>
              refine ⟨k + 1, A1, c1, q + 1, by omega, by omega, by go_num, rfl, ?_, hb.trans hb1⟩
              rw [HD.out, cells_append]
              exact hown1
            case measure => simp [intOf]; omega
      · obtain rfl : k = max n m := by omega
        have h1 : n ≤ max n m := by omega
        have h2 : m ≤ max n m := by omega
        go_wp2
        go_ret
        exact ⟨A', c', q, rfl, hown, hb⟩
end Go.Proofs.Ytmeodnpnbgaehaa
