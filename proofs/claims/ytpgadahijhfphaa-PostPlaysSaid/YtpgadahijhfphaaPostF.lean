/- Take, Double: the walks. -/
import Derived.Test.YtpgadahijhfphaaPostE
namespace Go.Proofs.Ytpgadahijhfphaa
open Go.RowKit

/-- What the deletion leaves, in plain words. -/
theorem cut_post {w w3 : World} {b g : Nat} {F : Nat → Prop} {L : List Pcl} {c0 i : Nat}
    (h1 : w.heap[b]? = some (.cells #[.slice (some ⟨g, 0, none⟩) L.length c0] 45 (0, 0))) (h3 : F b) (h4 : F g ∧ g ≠ b) (h5 : ∀ x ∈ L, Byt w b F (some ⟨g, 0, none⟩) x) (h6 : ∀ k, F k → k < w.heap.size) (h7 : L.length ≤ 40) (hi : i < L.length)
    (r1 : w3.ownsRow 0 35 2 (.slice (some ⟨g, 0, none⟩) (L.length - 1) c0) (L.length - 1) ((plc L).take (i * 2) ++ (plc L).drop ((i + 1) * 2))) (r2 : w.grownBy w3 (some g)) :
    PostAt (w3.setCell ⟨b, 0, none⟩ (.slice (some ⟨g, 0, none⟩) (L.length - 1) c0)) b F (L.take i ++ L.drop (i + 1)) ∧ Fr F w (w3.setCell ⟨b, 0, none⟩ (.slice (some ⟨g, 0, none⟩) (L.length - 1) c0)) := by
  have hbl := h6 b h3
  have hlen : (L.take i ++ L.drop (i + 1)).length = L.length - 1 := by rw [List.length_append, List.length_take, List.length_drop]; omega
  have hbb : w3.heap[b]? = some (.cells #[.slice (some ⟨g, 0, none⟩) L.length c0] 45 (0, 0)) := (r2.block b hbl (fun e => h4.2 (by injection e with e; exact e.symm))).trans h1
  have hset : ∀ {base size n c : Nat} {e : TypeId} {A : Option Addr} {xs : List Value}, w3.ownsRow base e size (.slice A n c) n xs → (∀ k, A = some ⟨k, 0, none⟩ → k ≠ b) → (w3.setCell ⟨b, 0, none⟩ (.slice (some ⟨g, 0, none⟩) (L.length - 1) c0)).ownsRow base e size (.slice A n c) n xs := by
    intro base size n c e A xs h hne
    refine own_keepBut (row := some b) h ⟨rfl, rfl, rfl, by simp [World.setCell], fun i hi hne => Below.heap_setCell _ _ _ _ (by rintro rfl; exact hne rfl)⟩ (fun k hk e => ?_)
    exact hne k (own_blk h hk) (by injection e with e; exact e.symm)
  refine ⟨⟨some ⟨g, 0, none⟩, c0, ?_, ?_, h3, ?_, ?_, ?_, by rw [hlen]; omega⟩, ?_⟩
  · rw [hlen]; exact blk_set hbb 0 _
  · rw [hlen, plc_append, plc_take, plc_drop]
    exact hset r1 (fun k hk => by injection hk with hk; injection hk with hk; rw [← hk]; exact h4.2)
  · intro k hk; injection hk with hk; injection hk with hk; rw [← hk]; exact h4
  · intro x hx
    have hx' : x ∈ L := by
      rcases List.mem_append.1 hx with hx | hx
      · exact List.mem_of_mem_take hx
      · exact List.mem_of_mem_drop hx
    obtain ⟨q1, q2, q3, q4⟩ := h5 x hx'
    refine ⟨hset (own_keepBut q1 r2 (fun k hk e => ?_)) (fun k hk => (q2 k hk).2.1), q2, q3, q4⟩
    exact (q2 k (own_blk q1 hk)).2.2 (by injection e with e; rw [e])
  · intro k hk
    have := h6 k hk
    have := r2.size
    simp [World.setCell]; omega
  · exact ⟨r2.os, r2.tape, r2.output, by simp [World.setCell]; exact r2.size, fun k hk hn => (Below.heap_setCell _ _ _ _ (by rintro rfl; exact hn h3)).trans (r2.block k hk (fun e => hn (by injection e with e; subst e; exact h4.1)))⟩

theorem fr_set (w : World) (p : Addr) (u : Value) : Fr (fun k => k = p.block) w (w.setCell p u) := ⟨rfl, rfl, rfl, by simp [World.setCell], fun k _ hn => Below.heap_setCell w p u k hn⟩
theorem post_set {w : World} {b : Nat} {F : Nat → Prop} {L : List Pcl} (h : PostAt w b F L) {p : Addr} (hp : ¬ F p.block) (u : Value) : PostAt (w.setCell p u) b F L := h.fr (fr_set w p u) (fun k hk hF => hp (by subst hk; exact hF))

theorem take_no (b : Nat) (i : Int) (F : Nat → Prop) (L : List Pcl) (w : World) (hp : PostAt w b F L) (hi : i < 0 ∨ (L.length : Int) ≤ i) :
    Calls Try.prog 11 #[.pointer (some ⟨b, 0, none⟩), .int .i64 i] w fun e w' => e = .returned (.tuple #[.agg #[.int .i64 0, .slice none 0 0], .bool false]) ∧ Below w.heap.size w w' := by
  have hc := fun w' (h : Below w.heap.size w w') => at_no b i F L w' (hp.below h) hi
  clear hp hi
  go_enter Try.func11, Try.ntmps11
  go_wp2_with fail
  refine (hc _ ((Below.refl _ _).alloc (Nat.le_refl _) _)).mono ?_
  rintro e w1 ⟨rfl, hb1⟩
  have ka := (hb1.block _ (by simp)).trans (blk_new (g := w.heap.size) rfl)
  have hw1 : Below w.heap.size w w1 := Below.trans (B := w.heap.size) (a := w) ((Below.refl _ _).alloc (Nat.le_refl _) _) (hb1.mono (by simp))
  have c0 := blk_cell ka 0
  have c1 := blk_cell ka 1
  have f0 := blk_frozen ka 0
  have f1 := blk_frozen ka 1
  have za := blk_lt ka
  clear hb1 hc
  go_wp2_with fail
  have kk : (((w1.setCell ⟨w.heap.size, 0, none⟩ (.int .i64 0)).setCell ⟨w.heap.size, 1, none⟩ (.slice none 0 0)).alloc (.cells #[.int .i64 0, .slice none 0 0] 35)).heap[w.heap.size]? = _ := (blk_old (by simp [World.setCell]; exact za)).trans (blk_set (blk_set ka 0 (.int .i64 0)) 1 (.slice none 0 0))
  have j0 := blk_cell kk 0
  have j1 := blk_cell kk 1
  exact bodyPost_ret (v := .tuple #[.agg #[.int .i64 0, .slice none 0 0], .bool false]) (by simp [results, Try.results11, go_sem, j0, j1]) rfl ⟨rfl, (((hw1.setCell (Nat.le_refl _) _).setCell (Nat.le_refl _) _).alloc (by simp [World.setCell]; exact Nat.le_of_lt za) _)⟩

/-- What Take leaves. -/
def Took (w : World) (b : Nat) (F : Nat → Prop) (L : List Pcl) (i : Nat) (t : Int) (n : Nat) (l : List Int) (e : Ending) (w' : World) : Prop :=
  ∃ A' c', e = .returned (.tuple #[.agg #[.int .i64 t, .slice A' n c'], .bool true]) ∧ w'.ownsRow w.heap.size 5 1 (.slice A' n c') n (cells .u8 l) ∧ PostAt w' b F (L.take i ++ L.drop (i + 1)) ∧ Fr F w w'

set_option maxHeartbeats 2000000 in
theorem take_yes (b i : Nat) (F : Nat → Prop) (L : List Pcl) (w : World) (hp : PostAt w b F L) {t : Int} {A : Option Addr} {n c : Nat} {l : List Int} (hi : L[i]? = some (t, A, n, c, l)) :
    Calls Try.prog 11 #[.pointer (some ⟨b, 0, none⟩), .int .i64 (i : Nat)] w (Took w b F L i t n l) := by
  have hil : i < L.length := (List.getElem?_eq_some_iff.1 hi).1
  have hc := fun w' (h : Below w.heap.size w w') => at_yes b i F L w' (hp.below h) hi
  obtain ⟨p0, -⟩ := plc_get hi
  obtain ⟨R, c0, h1, h2, h3, h4, h5, h6, h7⟩ := hp
  obtain ⟨g, rfl, -, hgl, -, -⟩ := own_at h2 p0
  have hg := h4 g rfl
  have hbl := h6 b h3
  have hcut := fun (w2 w3 : World) (q1 : w2.heap[b]? = some (.cells #[.slice (some ⟨g, 0, none⟩) L.length c0] 45 (0, 0))) q5 q6 => cut_post (w := w2) (w3 := w3) (F := F) (L := L) (i := i) q1 h3 hg q5 q6 h7 hil
  have H1 := Lib.hid h1
  have H2 := Lib.hid h2
  have H5 := Lib.hid h5
  have H6 := Lib.hid h6
  have HC := Lib.hid hcut
  have h3' := h3
  obtain ⟨m, hmm⟩ : ∃ m, L.length = m := ⟨_, rfl⟩
  have hdel := fun (w : World) (h : w.ownsRow 0 35 2 (.slice (some ⟨g, 0, none⟩) L.length c0) L.length (plc L)) => del_any g L.length c0 i (plc L) w h (plc_oneCell L) hil
  rw [hmm] at hdel hil h7
  have HM := Lib.hid hmm
  clear h1 h2 h4 h5 h6 p0 hi hcut h3 hmm
  go_enter Try.func11, Try.ntmps11
  go_wp2_with fail
  refine (hc _ ((Below.refl _ _).alloc (Nat.le_refl _) _)).mono ?_
  rintro e w1 ⟨A', c', rfl, hby, hb1⟩
  have ka := (hb1.block _ (by simp)).trans (blk_new (g := w.heap.size) rfl)
  have hw1 : Below w.heap.size w w1 := Below.trans (B := w.heap.size) (a := w) ((Below.refl _ _).alloc (Nat.le_refl _) _) (hb1.mono (by simp))
  have za := blk_lt ka
  have kb := (hw1.block b hbl).trans H1.out
  rw [HM.out] at kb
  have zb := blk_lt kb
  have b0 := blk_cell kb 0
  have hown := own_below H2.out hw1 (Nat.le_refl _)
  rw [HM.out] at hown
  clear hc
  go_wp2_with fail
  refine (hdel _ (hown.alloc _)).mono ?_
  rintro e w3 ⟨rfl, r1, r2⟩
  have hs2 := r2.size
  have hs1 := hw1.size
  have k3b := (r2.block b (by simp; omega) (fun e => hg.2 (by injection e with e; exact e.symm))).trans ((blk_old zb).trans kb)
  have k3a := (r2.block w.heap.size (by simp; omega) (fun e => by injection e with e; omega)).trans ((blk_old za).trans ka)
  have k3c := (r2.block w1.heap.size (by simp) (fun e => by injection e with e; omega)).trans (blk_new (w := w1) rfl)
  have cb := blk_cell k3b 0
  have fb := blk_frozen k3b 0
  have ca0 := blk_cell k3a 0
  have ca1 := blk_cell k3a 1
  have fa0 := blk_frozen k3a 0
  have fa1 := blk_frozen k3a 1
  have cc0 := blk_cell k3c 0
  have cc1 := blk_cell k3c 1
  have n1 : ¬ b = w.heap.size := by omega
  have n2 : ¬ b = w1.heap.size := by omega
  have n3 : ¬ w.heap.size = b := by omega
  have n4 : ¬ w1.heap.size = b := by omega
  have hW2 : Below w.heap.size w (w1.alloc (.cells #[.int .i64 t, .slice A' n c'] 35)) := hw1.alloc hs1 _
  have hpost := HC.out (w1.alloc (.cells #[.int .i64 t, .slice A' n c'] 35)) w3 ((hW2.block b hbl).trans H1.out) (fun x hx => (H5.out x hx).fr (Fr.of_below (F := fun _ => False) hW2) (fun _ h => h.elim)) (fun k hk => by have := H6.out k hk; simp; omega) (by rw [HM.out]; exact r1) r2
  rw [HM.out] at hpost
  have hF : ¬ F w.heap.size := fun h => by have := H6.out _ h; omega
  have hby3 : w3.ownsRow (w.heap.size + 1) 5 1 (.slice A' n c') n (cells .u8 l) := by
    refine own_keepBut ((own_more hby (by simp)).alloc _) r2 (fun k hk e => ?_)
    injection e with e
    rcases own_addr hby with e2 | ⟨k', e2, e3, _⟩
    · rw [e2] at hk; cases hk
    · subst e2; simp [Value.ownBlock] at hk e3; omega
  have HP := Lib.hid hpost
  have HB := Lib.hid hby3
  clear hpost hby3 r1 r2 hby hown b0 k3b k3c hdel
  go_wp2_with fail
  have kk := blk_set (blk_set (blk_far k3a (p := ⟨b, 0, none⟩) n3 (.slice (some ⟨g, 0, none⟩) (m - 1) c0)) 0 (.int .i64 t)) 1 (.slice A' n c')
  have j0 := blk_cell kk 0
  have j1 := blk_cell kk 1
  exact bodyPost_ret (v := .tuple #[.agg #[.int .i64 t, .slice A' n c'], .bool true]) (by simp [results, Try.results11, go_sem, j0, j1]) rfl ⟨A', c', rfl, own_more (own_far (own_far (own_far HB.out (by show b < _; omega) _) (Nat.lt_succ_self _) _) (Nat.lt_succ_self _) _) (Nat.le_succ _),
    post_set (post_set HP.out.1 hF _) hF _, ((Fr.of_below hW2).trans HP.out.2 (fun k hk => .inl hk)).trans ((fr_set _ _ _).trans (fr_set _ _ _) (fun k hk => .inl hk)) (fun k hk => .inr (by rw [hk]; exact Nat.le_refl _))⟩
end Go.Proofs.Ytpgadahijhfphaa
