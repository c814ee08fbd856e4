/- List: the walk. -/
import Derived.Test.YtpgadahijhfphaaPostG
namespace Go.Proofs.Ytpgadahijhfphaa
open Go.RowKit

/-- A told parcel's bytes lie in a block from B on that is not the row's. -/
def ByM (w : World) (B : Nat) (R : Option Addr) (x : Pcl) : Prop :=
  w.ownsRow B 5 1 (.slice x.2.1 x.2.2.1 x.2.2.2.1) x.2.2.1 (cells .u8 x.2.2.2.2) ∧ (∀ g, x.2.1 = some ⟨g, 0, none⟩ → R ≠ some ⟨g, 0, none⟩)

/-- A row of told parcels. -/
def RowM (w : World) (B : Nat) (A : Option Addr) (k c : Nat) (L : List Pcl) : Prop :=
  ∃ M : List Pcl, M.map says = L.map says ∧ w.ownsRow B 35 2 (.slice A k c) k (plc M) ∧ ∀ x ∈ M, ByM w B A x

theorem RowM.below {w w' : World} {B k c : Nat} {A : Option Addr} {L : List Pcl} (h : RowM w B A k c L) (hb : Below w.heap.size w w') : RowM w' B A k c L := by
  obtain ⟨M, h1, h2, h3⟩ := h
  exact ⟨M, h1, own_below h2 hb (Nat.le_refl _), fun x hx => ⟨own_below (h3 x hx).1 hb (Nat.le_refl _), (h3 x hx).2⟩⟩

/-- One more behind them. -/
theorem RowM.step {w w0 w' : World} {B k c c' : Nat} {A A' A2 : Option Addr} {n cb : Nat} {L M : List Pcl} {y : Pcl} {t : Int} {l : List Int}
    (h1 : M.map says = L.map says) (h2 : w.ownsRow B 35 2 (.slice A k c) k (plc M)) (h3 : ∀ x ∈ M, ByM w B A x) (hB : B ≤ w.heap.size) (h0 : Below w.heap.size w w0) (hy : says y = (t, l)) (hby : w0.ownsRow w.heap.size 5 1 (.slice A2 n cb) n (cells .u8 l))
    (hM : w'.ownsRow B 35 2 (.slice A' (k + 1) c') (k + 1) (plc M ++ [.int .i64 t, .slice A2 n cb])) (r2 : w0.grownBy w' (Value.slice A k c).ownBlock)
    (r3 : (Value.slice A' (k + 1) c').ownBlock = (Value.slice A k c).ownBlock ∨ (Value.slice A' (k + 1) c').ownBlock = some (w0.heap.size + 1)) : RowM w' B A' (k + 1) c' (L ++ [y]) := by
  have hA' : ∀ g, A' = some ⟨g, 0, none⟩ → A = some ⟨g, 0, none⟩ ∨ g = w0.heap.size + 1 := fun g hg => by
    subst hg
    rcases r3 with e | e
    · exact .inl (own_blk h2 e.symm)
    · simp [Value.ownBlock] at e; exact .inr e
  have hs := h0.size
  refine ⟨M ++ [(t, A2, n, cb, l)], by rw [List.map_append, List.map_append, h1]; simp [says, ← hy], ?_, fun x hx => ?_⟩
  · rw [plc_append]; exact hM
  · rcases List.mem_append.1 hx with hx | hx
    · obtain ⟨q1, q2⟩ := h3 x hx
      refine ⟨own_keepBut (own_below q1 h0 (Nat.le_refl _)) r2 (fun g hg e => q2 g (own_blk q1 hg) (own_blk h2 e)), fun g hg e => ?_⟩
      rcases hA' g e with e | e
      · exact q2 g hg e
      · rcases own_addr q1 with e2 | ⟨g', e2, _, e3⟩
        · rw [e2] at hg; cases hg
        · rw [e2] at hg; cases hg; omega
    · simp at hx
      subst hx
      have hA2 : ∀ g, A2 = some ⟨g, 0, none⟩ → w.heap.size ≤ g ∧ g < w0.heap.size := fun g hg => by
        subst hg
        rcases own_addr hby with e | ⟨g', e, e2, e3⟩
        · cases e
        · cases e; exact ⟨e2, e3⟩
      have hA : ∀ g, A = some ⟨g, 0, none⟩ → g < w.heap.size := fun g hg => by
        subst hg
        rcases own_addr h2 with e | ⟨g', e, e2, e3⟩
        · cases e
        · cases e; exact e3
      refine ⟨own_more (own_keepBut hby r2 (fun g hg e => ?_)) hB, fun g hg e => ?_⟩
      · have a1 := hA2 g (own_blk hby hg); have a2 := hA g (own_blk h2 e); omega
      · have a1 := hA2 g hg
        rcases hA' g e with e | e
        · have := hA g e; omega
        · omega

/-- What List tells. -/
def Listed (w : World) (L : List Pcl) (e : Ending) (w' : World) : Prop :=
  ∃ A c, e = .returned (.slice A L.length c) ∧ RowM w' w.heap.size A L.length c L ∧ Below w.heap.size w w'

set_option maxHeartbeats 1000000 in
theorem list_any (b : Nat) (F : Nat → Prop) (L : List Pcl) (w : World) (hp : PostAt w b F L) :
    Calls Try.prog 15 #[.pointer (some ⟨b, 0, none⟩)] w (Listed w L) := by
  obtain ⟨i0, hi0, hz0, hz1, hz2⟩ := info_parts info35
  have hlen := len_post hp
  have h7 : L.length ≤ 40 := by obtain ⟨_, _, _, _, _, _, _, _, h⟩ := hp; exact h
  have hat := fun w' (h : Below w.heap.size w w') (i : Nat) {t : Int} {A : Option Addr} {n c : Nat} {l : List Int} (hx : L[i]? = some (t, A, n, c, l)) => at_yes b i F L w' (hp.below h) hx
  obtain ⟨m, hmm⟩ : ∃ m, L.length = m := ⟨_, rfl⟩
  rw [hmm] at hlen h7
  have HM := Lib.hid hmm
  have HA := Lib.hid hat
  clear hmm hp hat
  go_enter Try.func15, Try.ntmps15
  go_wp2_with fail
  refine hlen.mono ?_
  rintro e w1 ⟨rfl, rfl⟩
  clear hlen
  go_wp2_with fail
  go_loopg [3, 9] m (fun gk v i wr => ∃ (k : Nat) (A : Option Addr) (c : Nat), k + gk = m ∧ i = .int .i64 (k : Nat) ∧ v = .slice A k c ∧ RowM wr w.heap.size A k c (L.take k) ∧ Below w.heap.size w wr)
  case atStart => exact ⟨0, none, 0, by omega, rfl, rfl, ⟨[], rfl, World.ownsRow_nil _ _ _ _, fun x hx => by cases hx⟩, Below.refl _ _⟩
  case round =>
    obtain ⟨k, A, c, hk, rfl, rfl, hrow, hb⟩ := hrel
    have HK := Lib.hid hk
    have hkm : k ≤ m := by omega
    clear hk
    by_cases hlt : k < m
    · obtain ⟨⟨t, A1, n, c1, l⟩, hx⟩ : ∃ x, L[k]? = some x := ⟨_, List.getElem?_eq_getElem (by rw [HM.out]; exact hlt)⟩
      have hc := HA.out wr hb k hx
      have HX := Lib.hid hx
      clear hx
      go_wp2_with fail
      refine hc.mono ?_
      rintro e w1 ⟨A', c', rfl, hby, hb1⟩
      clear hc
      have hrow' := hrow
      obtain ⟨M, m1, m2, m3⟩ := hrow
      go_upto_region 6 with fail
      obtain ⟨wq, hwq⟩ : ∃ v, v = w1.alloc (.cells #[.int .i64 t, .slice A' n c'] 35) := ⟨_, rfl⟩
      rw [← hwq]
      have kq : wq.heap[w1.heap.size]? = some (.cells #[.int .i64 t, .slice A' n c'] 35 (0, 0)) := by rw [hwq]; exact blk_new rfl
      have hbq : Below wr.heap.size wr wq := by rw [hwq]; exact hb1.alloc hb1.size _
      have hbyq : wq.ownsRow wr.heap.size 5 1 (.slice A' n c') n (cells .u8 l) := by rw [hwq]; exact hby.alloc _
      have hown := own_below m2 hbq (Nat.le_refl _)
      have q0 := blk_cell kq 0
      have q1 := blk_cell kq 1
      have hs1 := hb.size
      have hs2 := hbq.size
      have HMM := Lib.hid (And.intro m1 (And.intro m2 m3))
      clear m1 m2 m3 hwq kq hby hb1
      go_wp2_with (at_builtin; go_loud (refine wpList_append_new wq _ _ rfl (.tmp 18) (.tmp 20) 41 rfl w.heap.size 35 i0 _ 2 32 Try.underlying41 hi0 hz0 hz1 hz2 rfl (by decide) (.slice A k c) k _ rfl hown 1 rfl rfl (by intro u hu; simp at hu; rcases hu with rfl | rfl <;> rfl) (by simp only [maxLen]; omega) (by omega) (by omega) ?_; intro A3 c3 w3 r1 r2 r3 r4))
      go_roundg (m - (k + 1))
      case measure => have := HK.out; omega
      case rel =>
        obtain ⟨m1, m2, m3⟩ := HMM.out
        refine ⟨k + 1, A3, c3, by omega, by go_num, rfl, ?_, hb.trans (hbq.mono hs1 |>.trans r3)⟩
        rw [take_snoc HX.out]
        exact RowM.step m1 m2 m3 hs1 hbq rfl hbyq r1 r2 r4
    · obtain rfl : k = m := by omega
      go_wp2_with fail
      go_ret
      rw [List.take_of_length_le (by rw [HM.out]; exact Nat.le_refl _)] at hrow
      exact ⟨A, c, by rw [HM.out]; rfl, by rw [HM.out]; exact hrow, hb⟩
end Go.Proofs.Ytpgadahijhfphaa
