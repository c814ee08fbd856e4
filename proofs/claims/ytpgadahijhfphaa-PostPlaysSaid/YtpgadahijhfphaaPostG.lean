/- Double, List: the walks. -/
import Derived.Test.YtpgadahijhfphaaPostF
namespace Go.Proofs.Ytpgadahijhfphaa
open Go.RowKit

theorem double_no (b : Nat) (i : Int) (F : Nat → Prop) (L : List Pcl) (w : World) (hp : PostAt w b F L) (hi : i < 0 ∨ (L.length : Int) ≤ i) :
    Calls Try.prog 12 #[.pointer (some ⟨b, 0, none⟩), .int .i64 i] w fun e w' => e = .returned (.bool false) ∧ Below w.heap.size w w' := by
  have hc := at_no b i F L w hp hi
  clear hp hi
  go_enter Try.func12, Try.ntmps12
  go_wp2_with fail
  refine hc.mono ?_
  rintro e w1 ⟨rfl, hb1⟩
  clear hc
  go_wp2_with fail
  go_ret
  exact ⟨rfl, hb1.alloc hb1.size _⟩

theorem double_full (b i : Nat) (F : Nat → Prop) (L : List Pcl) (w : World) (hp : PostAt w b F L) (hi : i < L.length) (hm : 40 ≤ L.length) :
    Calls Try.prog 12 #[.pointer (some ⟨b, 0, none⟩), .int .i64 (i : Nat)] w fun e w' => e = .returned (.bool false) ∧ Below w.heap.size w w' := by
  obtain ⟨⟨t, A, n, c, l⟩, hx⟩ : ∃ x, L[i]? = some x := ⟨_, List.getElem?_eq_getElem hi⟩
  have hc := at_yes b i F L w hp hx
  obtain ⟨R, c0, h1, h2, h3, h4, h5, h6, h7⟩ := hp
  obtain ⟨q1, q2, q3, q4⟩ := h5 _ (List.mem_of_getElem? hx)
  have q4' : n ≤ 4096 := q4
  have hbl := h6 b h3
  have H1 := Lib.hid h1
  obtain ⟨m, hmm⟩ : ∃ m, L.length = m := ⟨_, rfl⟩
  rw [hmm] at h7 hm
  have HM := Lib.hid hmm
  clear hx h1 h2 h3 h4 h5 h6 q1 q2 q3 q4 hi hmm
  go_enter Try.func12, Try.ntmps12
  go_wp2_with fail
  refine hc.mono ?_
  rintro e w1 ⟨A', c', rfl, hby, hb1⟩
  clear hc
  have kb := (hb1.block b hbl).trans H1.out
  rw [HM.out] at kb
  have zb := blk_lt kb
  go_wp2_with fail
  refine (send_no b n c' m c0 A' R t _ ((blk_old zb).trans kb) (.inr (.inr (.inr hm))) (by omega) h7).mono ?_
  rintro e w2 ⟨rfl, rfl⟩
  go_wp2_with fail
  go_ret
  exact ⟨rfl, hb1.alloc hb1.size _⟩

theorem double_yes (b i : Nat) (F : Nat → Prop) (L : List Pcl) (w : World) (hp : PostAt w b F L) {t : Int} {A : Option Addr} {n c : Nat} {l : List Int} (hx : L[i]? = some (t, A, n, c, l)) (hm : L.length < 40) :
    Calls Try.prog 12 #[.pointer (some ⟨b, 0, none⟩), .int .i64 (i : Nat)] w fun e w' => e = .returned (.bool true) ∧ Sent w b F L t n l w' := by
  have hc := at_yes b i F L w hp hx
  have hp' := hp
  obtain ⟨R, c0, h1, h2, h3, h4, h5, h6, h7⟩ := hp'
  obtain ⟨q1, q2, q3, q4⟩ := h5 _ (List.mem_of_getElem? hx)
  have q4' : n ≤ 4096 := q4
  have hto := Lib.hid (show t = 1 ∨ t = 2 from q3)
  have HP := Lib.hid hp
  clear hx h1 h2 h3 h4 h5 h6 q1 q2 q3 q4 hp h7
  go_enter Try.func12, Try.ntmps12
  go_wp2_with fail
  refine hc.mono ?_
  rintro e w1 ⟨A', c', rfl, hby, hb1⟩
  clear hc
  go_wp2_with fail
  have hw2 : Below w.heap.size w (w1.alloc (.cells #[.int .i64 t, .slice A' n c'] 35)) := hb1.alloc hb1.size _
  refine (send_yes b n c' A' t l F L _ (HP.out.below hw2) (Reads.of_own (hby.alloc _)) hto.out q4' hm).mono ?_
  rintro e w2 ⟨rfl, hs⟩
  have HS := Lib.hid hs
  clear hs
  go_wp2_with fail
  go_ret
  obtain ⟨A2, c2, F', s1, s2, s3⟩ := HS.out
  exact ⟨rfl, A2, c2, F', s1, (Fr.of_below hw2).trans s2 (fun k hk => .inl hk), fun k hk => (s3 k hk).imp id (fun h => Nat.le_trans hw2.size h)⟩
end Go.Proofs.Ytpgadahijhfphaa
