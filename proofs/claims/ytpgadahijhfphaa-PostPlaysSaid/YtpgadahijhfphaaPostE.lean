/- At: the walk. -/
import Derived.Test.YtpgadahijhfphaaPostD
namespace Go.Proofs.Ytpgadahijhfphaa
open Go.RowKit

theorem at_no (b : Nat) (i : Int) (F : Nat → Prop) (L : List Pcl) (w : World) (hp : PostAt w b F L) (hi : i < 0 ∨ (L.length : Int) ≤ i) :
    Calls Try.prog 10 #[.pointer (some ⟨b, 0, none⟩), .int .i64 i] w fun e w' => e = .returned (.tuple #[.agg #[.int .i64 0, .slice none 0 0], .bool false]) ∧ Below w.heap.size w w' := by
  obtain ⟨R, c0, h1, h2, h3, h4, h5, h6, h7⟩ := hp
  have hbl := h6 b h3
  obtain ⟨m, hmm⟩ : ∃ m, L.length = m := ⟨_, rfl⟩
  rw [hmm] at h1 hi h7
  have fc := blk_cell h1
  clear h2 h3 h4 h5 h6 hmm h1
  by_cases d : i < 0
  · have d1 := dec_yes d
    go_enter Try.func10, Try.ntmps10
    go_wp2_with fail
    exact bodyPost_ret (v := .tuple #[.agg #[.int .i64 0, .slice none 0 0], .bool false]) (by simp [results, Try.results10, go_sem]) rfl ⟨rfl, (by repeat (first | with_reducible exact Below.refl _ _ | with_reducible assumption | with_reducible refine Below.drew ?_ | with_reducible refine below_drewN ?_ _ | with_reducible refine Below.setCell ?_ (by first | omega | (simp <;> omega)) _ | with_reducible refine Below.alloc ?_ (by first | omega | (simp <;> omega)) _))⟩
  · have d1 := dec_no d
    have d2 : decide ((m : Int) ≤ i) = true := dec_yes (by omega)
    go_enter Try.func10, Try.ntmps10
    go_wp2_with fail
    exact bodyPost_ret (v := .tuple #[.agg #[.int .i64 0, .slice none 0 0], .bool false]) (by simp [results, Try.results10, go_sem]) rfl ⟨rfl, (by repeat (first | with_reducible exact Below.refl _ _ | with_reducible assumption | with_reducible refine Below.drew ?_ | with_reducible refine below_drewN ?_ _ | with_reducible refine Below.setCell ?_ (by first | omega | (simp <;> omega)) _ | with_reducible refine Below.alloc ?_ (by first | omega | (simp <;> omega)) _))⟩

/-- What At hands back. -/
def Got (w : World) (t : Int) (n : Nat) (l : List Int) (e : Ending) (w' : World) : Prop :=
  ∃ A' c', e = .returned (.tuple #[.agg #[.int .i64 t, .slice A' n c'], .bool true]) ∧ w'.ownsRow w.heap.size 5 1 (.slice A' n c') n (cells .u8 l) ∧ Below w.heap.size w w'

set_option maxHeartbeats 2000000 in
theorem at_yes (b i : Nat) (F : Nat → Prop) (L : List Pcl) (w : World) (hp : PostAt w b F L) {t : Int} {A : Option Addr} {n c : Nat} {l : List Int} (hi : L[i]? = some (t, A, n, c, l)) :
    Calls Try.prog 10 #[.pointer (some ⟨b, 0, none⟩), .int .i64 (i : Nat)] w (Got w t n l) := by
  obtain ⟨R, c0, h1, h2, h3, h4, h5, h6, h7⟩ := hp
  have hbl := h6 b h3
  have hil : i < L.length := (List.getElem?_eq_some_iff.1 hi).1
  obtain ⟨q1, q2, q3, q4⟩ := h5 _ (List.mem_of_getElem? hi)
  obtain ⟨p0, p1⟩ := plc_get hi
  obtain ⟨g, rfl, -, hgl, y0, -⟩ := own_at h2 p0
  obtain ⟨g', e, -, -, y1, -⟩ := own_at h2 p1
  cases e
  obtain ⟨m, hmm⟩ : ∃ m, L.length = m := ⟨_, rfl⟩
  rw [hmm] at h1 h7 hil
  have fc := blk_cell h1
  have hr : Reads w w.heap.size 1 A n c (cells .u8 l) := Reads.of_own q1
  have q4' : n ≤ 4096 := q4
  clear h2 h3 h4 h5 h6 hmm h1 q1 q2 q3 q4 p0 p1 hi
  have hr2 : Reads (((w.alloc (.cells #[.int .i64 0, .slice none 0 0] 35)).alloc (.cells #[.int .i64 t, .slice A n c] 35)).drew) (((w.alloc (.cells #[.int .i64 0, .slice none 0 0] 35)).alloc (.cells #[.int .i64 t, .slice A n c] 35)).drew).heap.size 1 A n c (cells .u8 l) := (hr.next ((Below.refl _ _).alloc (Nat.le_refl _) _)).next (Below.drew ((Below.refl _ _).alloc (Nat.le_refl _) _))
  clear hr
  have i1 : decide ((i : Int) < 0) = false := dec_no (by omega)
  have i2 : decide ((m : Int) ≤ (i : Int)) = false := dec_no (by omega)
  have i3 : (0 : Int) ≤ (i : Int) := by omega
  have i4 : (i : Int) < (m : Int) := by omega
  go_enter Try.func10, Try.ntmps10
  go_wp2_with fail
  obtain ⟨W2, hW2⟩ : ∃ v, v = (w.alloc (.cells #[.int .i64 0, .slice none 0 0] 35)).alloc (.cells #[.int .i64 t, .slice A n c] 35) := ⟨_, rfl⟩
  rw [← hW2] at hr2 ⊢
  have ha : W2.heap[w.heap.size]? = some (.cells #[.int .i64 0, .slice none 0 0] 35 (0, 0)) := by rw [hW2]; exact (blk_old (by simp)).trans (blk_new rfl)
  have hb : W2.heap[w.heap.size + 1]? = some (.cells #[.int .i64 t, .slice A n c] 35 (0, 0)) := by rw [hW2]; exact blk_new (by simp)
  have hw2 : Below w.heap.size w W2 := by rw [hW2]; exact (by repeat (first | with_reducible exact Below.refl _ _ | with_reducible assumption | with_reducible refine Below.drew ?_ | with_reducible refine below_drewN ?_ _ | with_reducible refine Below.setCell ?_ (by first | omega | (simp <;> omega)) _ | with_reducible refine Below.alloc ?_ (by first | omega | (simp <;> omega)) _))
  have ca0 := blk_cell ha 0
  have ca1 := blk_cell ha 1
  have fa0 := blk_frozen ha 0
  have fa1 := blk_frozen ha 1
  have cb0 := blk_cell hb 0
  have cb1 := blk_cell hb 1
  have za := blk_lt ha
  have zb := blk_lt hb
  clear hW2 fc y0 y1
  go_region_law (go_simp; go_at_call 16; refine (clone_any A n c l _ hr2 (by omega)).mono ?_; rintro e wa ⟨A', c', rfl, hby, hba0⟩; have hba : Below W2.heap.size W2 wa := ⟨hba0.os, hba0.tape, hba0.output, hba0.size, hba0.block⟩; clear hba0; have ka := (hba.block _ za).trans ha; have kb := (hba.block _ zb).trans hb; have c0 := blk_cell ka 0; have c1 := blk_cell ka 1; have f0 := blk_frozen ka 0; have f1 := blk_frozen ka 1; have e0 := blk_cell kb 0; have e1 := blk_cell kb 1)
  all_goals
    have HBY := Lib.hid hby
    have hbw : Below w.heap.size w wa := hw2.trans (hba.mono hw2.size)
    clear hby hr2 ca0 ca1 fa0 fa1 cb0 cb1 e0 e1
    go_wp2_with fail
    have kk := blk_set (blk_set ka 0 (.int .i64 t)) 1 (.slice A' n c')
    have j0 : ((wa.setCell ⟨w.heap.size, 0, none⟩ (.int .i64 t)).setCell ⟨w.heap.size, 1, none⟩ (.slice A' n c')).cell? ⟨w.heap.size, 0, none⟩ = some (.int .i64 t) := blk_cell kk 0
    have j1 : ((wa.setCell ⟨w.heap.size, 0, none⟩ (.int .i64 t)).setCell ⟨w.heap.size, 1, none⟩ (.slice A' n c')).cell? ⟨w.heap.size, 1, none⟩ = some (.slice A' n c') := blk_cell kk 1
    clear kk
    exact bodyPost_ret (v := .tuple #[.agg #[.int .i64 t, .slice A' n c'], .bool true]) (by simp [results, Try.results10, go_sem, j0, j1]) rfl ⟨A', c', rfl, own_more (own_far (own_far HBY.out za _) za _) (Nat.le_of_lt za), (hbw.setCell (Nat.le_refl _) _).setCell (Nat.le_refl _) _⟩
end Go.Proofs.Ytpgadahijhfphaa
