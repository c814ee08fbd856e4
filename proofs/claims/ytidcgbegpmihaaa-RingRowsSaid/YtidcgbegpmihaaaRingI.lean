/- The law on a ring's numbers: the walk. -/
import Derived.Test.YtidcgbegpmihaaaRingH
import Derived.Deep.LoopGhost
namespace Go.Proofs.Ytidcgbegpmihaaa
open Go.RowKit

theorem info4 : (Try.prog.info? 4).map (fun i => (i.zero, i.size, i.bytes)) = some (some (.bool false), 1, 1) := by kernel_rfl

def nv (n0 S P i j : Nat) : Nat := (n0 + i) % S * P + j
theorem nv_lt {n0 S P i j : Nat} (s1 : 4 ≤ S) (s2 : S ≤ 8) (p1 : 1 ≤ P) (p2 : P ≤ 4) (hj : j < P) : nv n0 S P i j < S * P := by
  unfold nv
  have h := Nat.mod_lt (n0 + i) (by omega : 0 < S)
  generalize (n0 + i) % S = x at *
  rcases (by omega : P = 1 ∨ P = 2 ∨ P = 3 ∨ P = 4) with rfl | rfl | rfl | rfl <;> omega
theorem nv_inj {n0 S P i j i' j' : Nat} (s1 : 4 ≤ S) (s2 : S ≤ 8) (p1 : 1 ≤ P) (p2 : P ≤ 4) (hi : i < S) (hi' : i' < S) (hj : j < P) (hj' : j' < P) (h : nv n0 S P i j = nv n0 S P i' j') : i = i' ∧ j = j' := by
  unfold nv at h
  have h2 : (n0 + i) % S = (n0 + i') % S ∧ j = j' := by
    generalize (n0 + i) % S = x at *
    generalize (n0 + i') % S = y at *
    rcases (by omega : P = 1 ∨ P = 2 ∨ P = 3 ∨ P = 4) with rfl | rfl | rfl | rfl <;> omega
  refine ⟨?_, h2.2⟩
  have h3 := h2.1
  rcases (by omega : S = 4 ∨ S = 5 ∨ S = 6 ∨ S = 7 ∨ S = 8) with rfl | rfl | rfl | rfl | rfl <;> omega
theorem nv_num {n0 S P i j : Nat} {sz : Int} (s1 : 4 ≤ S) (s2 : S ≤ 8) (p1 : 1 ≤ P) (p2 : P ≤ 4) (z1 : 512 ≤ sz) (z2 : sz ≤ 4096) (hn : n0 < 16777216) (hi : i < S) (hj : j < P) :
    numM P S sz ((n0 : Int) + i) j = (nv n0 S P i j : Nat) := by
  rw [numM_yes ⟨rightR_mk (by omega), by omega, by omega, by omega, by omega⟩]
  unfold nv
  push_cast
  rfl
theorem nv_num2 {n0 S P i j : Nat} {sz : Int} (s1 : 4 ≤ S) (s2 : S ≤ 8) (p1 : 1 ≤ P) (p2 : P ≤ 4) (z1 : 512 ≤ sz) (z2 : sz ≤ 4096) (hn : n0 < 16777216) (hi : i < S) (hj : j < P) :
    numM P S sz ((n0 : Int) + i + S) j = (nv n0 S P i j : Nat) := by
  rw [numM_yes ⟨rightR_mk (by omega), by omega, by omega, by omega, by omega⟩]
  unfold nv
  rw [Int.add_emod_right]
  push_cast
  rfl

def bcells (l : List Bool) : List Value := l.map .bool
theorem bcells_get {l : List Bool} {j : Nat} {x : Bool} (h : l[j]? = some x) : (bcells l)[j]? = some (.bool x) := by simp [bcells, h]
theorem bcells_set (l : List Bool) (j : Nat) (x : Bool) : (bcells l).set j (.bool x) = bcells (l.set j x) := by simp [bcells, List.map_set]
theorem bcells_replicate (n : Nat) (x : Bool) : List.replicate n (Value.bool x) = bcells (List.replicate n x) := by simp [bcells]

/-- What is still to come is not marked. -/
def Free (n0 S P i j : Nat) (L : List Bool) : Prop := ∀ i' j', i' < S → j' < P → (i < i' ∨ i = i' ∧ j ≤ j') → L[nv n0 S P i' j']? = some false
theorem free_start {n0 S P : Nat} (s1 : 4 ≤ S) (s2 : S ≤ 8) (p1 : 1 ≤ P) (p2 : P ≤ 4) : Free n0 S P 0 0 (List.replicate (S * P) false) := by
  intro i' j' _ hj _
  rw [List.getElem?_replicate_of_lt (nv_lt s1 s2 p1 p2 hj)]
theorem free_next {n0 S P i j : Nat} {L : List Bool} (s1 : 4 ≤ S) (s2 : S ≤ 8) (p1 : 1 ≤ P) (p2 : P ≤ 4) (hi : i < S) (hj : j < P) (h : Free n0 S P i j L) : Free n0 S P i (j + 1) (L.set (nv n0 S P i j) true) := by
  intro i' j' hi' hj' ho
  rw [List.getElem?_set_ne]
  · exact h i' j' hi' hj' (by omega)
  · intro e
    have := nv_inj s1 s2 p1 p2 hi hi' hj hj' e
    omega
theorem free_row {n0 S P i : Nat} {L : List Bool} (h : Free n0 S P i P L) : Free n0 S P (i + 1) 0 L := by
  intro i' j' hi' hj' ho
  exact h i' j' hi' hj' (by omega)

set_option maxHeartbeats 2000000 in
theorem nums_law (a b c d : Int) (w : World) : Calls Try.prog 5 #[.int .i64 a, .int .i64 b, .int .i64 c, .int .i64 d] w fun e w' => e = .returned (.bool true) ∧ Below w.heap.size w w' := by
  obtain ⟨i0, hi0, hz0, hz1, hz2⟩ := info_parts info4
  obtain ⟨P, hP⟩ : ∃ P : Nat, 1 + a % 4 = (P : Int) := ⟨(1 + a % 4).toNat, by omega⟩
  obtain ⟨S, hS⟩ : ∃ S : Nat, 4 + b % 256 % 5 = (S : Int) := ⟨(4 + b % 256 % 5).toNat, by omega⟩
  obtain ⟨sz, hZ⟩ : ∃ sz : Int, 512 + c % 65536 % 3585 = sz := ⟨_, rfl⟩
  have p1 : 1 ≤ P ∧ P ≤ 4 := by omega
  have s1 : 4 ≤ S ∧ S ≤ 8 := by omega
  have z1 : 512 ≤ sz ∧ sz ≤ 4096 := by omega
  have Hd : bits .and .i64 d 16777215 = d % 16777216 := i64_mask 24 (by decide) d 16777215 (by decide)
  obtain ⟨n0, hn⟩ : ∃ n0 : Nat, d % 16777216 = (n0 : Int) := ⟨(d % 16777216).toNat, by omega⟩
  have n1 : n0 < 16777216 := by omega
  rw [hn] at Hd
  clear hn
  have hsh := shape_any a b c w
  rw [hP, hS, hZ] at hsh
  clear hP hS hZ
  obtain ⟨T, hT⟩ : ∃ T : Nat, T = S * P := ⟨_, rfl⟩
  have hTc : (S : Int) * P = T := by rw [hT]; push_cast; rfl
  have t1 : 4 ≤ T ∧ T ≤ 32 := by
    subst hT
    rcases (by omega : P = 1 ∨ P = 2 ∨ P = 3 ∨ P = 4) with rfl | rfl | rfl | rfl <;> omega
  have HT := Lib.hid hT
  clear hT
  go_enter Try.func5, Try.ntmps5
  go_wp2_with fail
  refine hsh.mono ?_
  rintro e w1 ⟨rfl, hb1⟩
  clear hsh
  go_wp2_with (at_make; refine wpList_make_one _ rfl (.tmp 24) (.tmp 24) 42 rfl (w1.heap.size + 1) 4 i0 _ 1 Try.underlying42 hi0 hz0 hz1 hz2 rfl .i64 .i64 _ _ T rfl rfl (by first | rfl | exact hTc) (by first | rfl | exact hTc) (by omega) (by simp only [maxLen]; omega) (by simp) ?_; intro A1 c1 w2 hown hg hb2 hob; clear hob)
  rw [bcells_replicate] at hown
  obtain ⟨g, rfl, hbg, hgl, -, -⟩ := own_at (j := 0) hown (bcells_get (x := false) (by rw [List.getElem?_replicate_of_lt (by omega)]))
  have hbx : w2.heap[w1.heap.size]? = some (.cells #[.int .i64 P, .int .i64 S, .int .i64 sz] 23 (0, 0)) := (hb2.block _ (by omega)).trans (blk_new rfl)
  have hbw : Below w1.heap.size w1 w2 := ((Below.refl w1.heap.size w1).alloc (Nat.le_refl _) _).trans (hb2.mono (by omega))
  clear hb2 hg
  go_wp2_with fail
  go_loopg [11] S (fun gk i wr => ∃ (k : Nat) (L : List Bool), k + gk = S ∧ i = .int .i64 (k : Nat) ∧ wr.ownsRow (w1.heap.size + 1) 4 1 (.slice (some ⟨g, 0, none⟩) T c1) T (bcells L) ∧ Below w1.heap.size w1 wr ∧ wr.heap[w1.heap.size]? = some (.cells #[.int .i64 P, .int .i64 S, .int .i64 sz] 23 (0, 0)) ∧ Free n0 S P k 0 L)
  case atStart =>
    refine ⟨0, List.replicate T false, by omega, rfl, hown, hbw, hbx, ?_⟩
    rw [HT.out]
    exact free_start (by omega) (by omega) (by omega) (by omega)
  case round =>
    obtain ⟨k, L, hk, rfl, hown, hb, hbx, hfree⟩ := hrel
    have fx := blk_cell hbx
    have hgk := Lib.hid hk
    clear hk
    by_cases hlt : k < S
    · go_wp2_with fail
      go_loopg [12] P (fun gj j wr => ∃ (m : Nat) (L : List Bool), m + gj = P ∧ j = .int .i64 (m : Nat) ∧ wr.ownsRow (w1.heap.size + 1) 4 1 (.slice (some ⟨g, 0, none⟩) T c1) T (bcells L) ∧ Below w1.heap.size w1 wr ∧ wr.heap[w1.heap.size]? = some (.cells #[.int .i64 P, .int .i64 S, .int .i64 sz] 23 (0, 0)) ∧ Free n0 S P k m L)
      case atStart => exact ⟨0, L, by omega, rfl, hown, hb, hbx, hfree⟩
      case round =>
        clear hown hb hbx hfree fx L
        obtain ⟨m, L, hm, rfl, hown, hb, hbx, hfree⟩ := hrel
        have fx := blk_cell hbx
        have hmk := Lib.hid hm
        clear hm
        by_cases hlt2 : m < P
        · have HN1 := Lib.hid (nv_num (sz := sz) (n0 := n0) (S := S) (P := P) s1.1 s1.2 p1.1 p1.2 z1.1 z1.2 n1 hlt hlt2)
          have HN2 := Lib.hid (nv_num2 (sz := sz) (n0 := n0) (S := S) (P := P) s1.1 s1.2 p1.1 p1.2 z1.1 z1.2 n1 hlt hlt2)
          have hnl := nv_lt (n0 := n0) (i := k) s1.1 s1.2 p1.1 p1.2 hlt2
          rw [← HT.out] at hnl
          have hnx := hfree k m hlt hlt2 (Or.inr ⟨rfl, Nat.le_refl _⟩)
          have hnf := free_next s1.1 s1.2 p1.1 p1.2 hlt hlt2 hfree
          generalize nv n0 S P k m = N at *
          have HX := Lib.hid hnx
          have HF := Lib.hid hnf
          have dn1 : ¬ T ≤ N := by omega
          have dn2 : decide ((N : Int) < 0) = false := dec_no (by omega)
          have dn3 : (0 : Int) ≤ (N : Int) := by omega
          clear hnx hnf hfree
          go_wp2_with fail
          refine (num_any _ _ _ _ _ _).mono ?_
          rintro e w3 ⟨rfl, hb3⟩
          rw [HN1.out]
          have hown3 := own_below hown hb3 (Nat.le_refl _)
          have hbx3 := (hb3.block _ (blk_lt hbx)).trans hbx
          have hbw3 := hb.trans (hb3.mono hb.size)
          have fx3 := blk_cell hbx3
          clear fx hown hb hbx hb3
          obtain ⟨g', eg, -, hgl3, hc, hf⟩ := own_at hown3 (bcells_get HX.out)
          cases eg
          go_wp2_with fail
          refine (num_any _ _ _ _ _ _).mono ?_
          rintro e w4 ⟨rfl, hb4⟩
          rw [HN2.out]
          have hown4 := own_below hown3 hb4 (Nat.le_refl _)
          have hbx4 := (hb4.block _ (blk_lt hbx3)).trans hbx3
          have hbw4 := hbw3.trans (hb4.mono hbw3.size)
          clear fx3 hown3 hbw3 hbx3 hb4 hc hf hgl3
          obtain ⟨g', eg, -, hgl4, hc, hf⟩ := own_at hown4 (bcells_get HX.out)
          cases eg
          go_wp2_with fail
          go_roundg (gk - 1)
          case measure => have := hmk.out; omega
          case rel =>
            refine ⟨m + 1, L.set N true, by have := hmk.out; omega, by go_num, ?_, ?_, ?_, HF.out⟩
            · rw [← bcells_set]; exact (own_set hown4 N _).1
            · exact Below.setCell hbw4 (by simp <;> omega) _
            · exact blk_far hbx4 (by simp <;> omega) _
        · obtain rfl : m = P := by have := hmk.out; omega
          go_wp2_with fail
          go_roundg (S - (k + 1))
          case measure => have := hgk.out; omega
          case rel => exact ⟨k + 1, L, by have := hgk.out; omega, by go_num, hown, hb, hbx, free_row hfree⟩
    · go_wp2_with fail
      refine (known_any _).mono ?_
      rintro e w3 ⟨rfl, hb3⟩
      go_wp2_with fail
      go_ret
      exact ⟨rfl, (hb1.trans (hb.mono hb1.size)).trans (hb3.mono (Nat.le_trans hb1.size hb.size))⟩
end Go.Proofs.Ytidcgbegpmihaaa
