/- Send: the walk. -/
import Derived.Test.YtpgadahijhfphaaPostC
namespace Go.Proofs.Ytpgadahijhfphaa
open Go.RowKit

/-- What Send leaves. -/
def Sent (w : World) (b : Nat) (F : Nat → Prop) (L : List Pcl) (tt : Int) (n : Nat) (l : List Int) (w' : World) : Prop :=
  ∃ A' c' F', PostAt w' b F' (L ++ [(tt, A', n, c', l)]) ∧ Fr F w w' ∧ (∀ k, F' k → F k ∨ w.heap.size ≤ k)

set_option maxHeartbeats 2000000 in
theorem send_yes (b n c : Nat) (A : Option Addr) (tt : Int) (l : List Int) (F : Nat → Prop) (L : List Pcl) (w : World) (hp : PostAt w b F L) (hr : Reads w w.heap.size 1 A n c (cells .u8 l)) (hto : tt = 1 ∨ tt = 2) (hn : n ≤ 4096) (hm : L.length < 40) :
    Calls Try.prog 9 #[.pointer (some ⟨b, 0, none⟩), .int .i64 tt, .slice A n c] w fun e w' => e = .returned (.bool true) ∧ Sent w b F L tt n l w' := by
  obtain ⟨i0, hi0, hz0, hz1, hz2⟩ := info_parts info35
  obtain ⟨R, c0, h1, h2, h3, h4, h5, h6, -⟩ := hp
  have fc := blk_cell h1
  have ff := blk_frozen h1
  have hbl := h6 b h3
  have t1 : decide (tt < 1) = false := dec_no (by omega)
  have t2 : decide (2 < tt) = false := dec_no (by omega)
  have t3 : decide (4096 < (n : Int)) = false := dec_no (by omega)
  have hfin := fun (wa w3 : World) A' c' A3 c3 o => send_post (wa := wa) (w3 := w3) (A' := A') (c' := c') (A3 := A3) (c3 := c3) (o := o) h1 h2 h3 h4 h5 h6 hm (l := l) (n := n) (tt := tt)
  have hto' := Lib.hid hto
  obtain ⟨m, hmm⟩ : ∃ m, L.length = m := ⟨_, rfl⟩
  rw [hmm] at h1 h2 hm
  have HM := Lib.hid hmm
  have HF := Lib.hid hfin
  have H1 := Lib.hid h1
  have H2 := Lib.hid h2
  rw [hmm] at fc
  have fc0 : w.cell? ⟨b, 0, none⟩ = some (.slice R m c0) := fc 0
  have ff0 : w.frozen? ⟨b, 0, none⟩ = false := ff 0
  have HRB := Lib.hid (show ∀ k, (Value.slice R m c0).ownBlock = some k → k ≠ b from fun k hk => (h4 k (own_blk h2 hk)).2)
  clear hfin h3 h4 h5 h6 hmm hto h1 h2 fc ff
  have t4 : decide (40 ≤ (m : Int)) = false := dec_no (by omega)
  go_enter Try.func9, Try.ntmps9
  go_wp2_with fail
  go_region_law (first
    | (refine step_append_reads rfl (.tmp 34) (.tmp 39) 41 (by rfl) 0 35 i0 _ 2 32 Try.underlying41 hi0 hz0 hz1 hz2 (by rfl) (by decide) (.slice R m c0) m (plc L) (by rfl) (hown.alloc _) (wa.heap.size + 1) (some ⟨wa.heap.size, 0, none⟩) 1 1 _ (by rfl) (Reads.new wa _ _ 2 1 rfl (by decide)) (by intro u hu; simp at hu; rcases hu with rfl | rfl <;> rfl) (by simp only [maxLen]; omega) (by omega) (Nat.zero_le _) ?_; intro A3 c3 w3 r1 r2 r3 r4; have hb3 := (r2.block b (by simp; omega) (fun e => HRB.out b e.symm rfl)).trans ((blk_old hzb).trans hab); have hc3 := blk_cell hb3 0; have hf3 := blk_frozen hb3 0)
    | (go_simp; go_at_call 16; refine (clone_any A n c l w.drew hr (by omega)).mono ?_; rintro e wa ⟨A', c', rfl, hby, hba0⟩; have hba : Below w.heap.size w wa := ⟨hba0.os, hba0.tape, hba0.output, hba0.size, hba0.block⟩; clear hba0; have hown := own_below H2.out hba (Nat.le_refl _); have hab := (hba.block b hbl).trans H1.out; have hzb := blk_lt hab; have hca := blk_cell hab 0; have hfa := blk_frozen hab 0))
  all_goals
    have R1 := Lib.hid r1
    have R2 := Lib.hid r2
    have R4 := Lib.hid r4
    clear r1 r2 r3 r4 hc3 hf3 hca hfa hb3 hab
    go_wp2_with fail
    go_ret
    have hfin := HF.out wa w3 A' c' A3 c3 _ hba hby hto'.out hn (by rw [HM.out]; exact R1.out) (by rw [HM.out]; exact R2.out) (by rw [HM.out]; exact R4.out)
    rw [HM.out] at hfin
    exact ⟨rfl, A', c', _, hfin.1, hfin.2, fun k hk => hk.imp id (fun h => h.1)⟩
end Go.Proofs.Ytpgadahijhfphaa
