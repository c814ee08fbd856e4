/- New, Len, Send: the walks. -/
import Derived.Test.YtpgadahijhfphaaPostB
namespace Go.Proofs.Ytpgadahijhfphaa
open Go.RowKit

theorem new_any (w : World) : Calls Try.prog 8 #[] w fun e w' => e = .returned (.pointer (some ⟨w.heap.size, 0, none⟩)) ∧ w.alloc (.cells #[.slice none 0 0] 45) = w' := by
  go_enter Try.func8, Try.ntmps8
  go_wp2_with fail
  go_ret
  exact ⟨rfl, rfl⟩
theorem new_post (w : World) : PostAt (w.alloc (.cells #[.slice none 0 0] 45)) w.heap.size (fun k => k = w.heap.size) [] :=
  ⟨none, 0, blk_new rfl, World.ownsRow_nil _ _ _ _, rfl, fun _ h => (by cases h), fun _ h => (by cases h), fun k hk => by subst hk; simp, by simp⟩

theorem len_any (b n c : Nat) (R : Option Addr) (w : World) (h : w.heap[b]? = some (.cells #[.slice R n c] 45 (0, 0))) :
    Calls Try.prog 13 #[.pointer (some ⟨b, 0, none⟩)] w fun e w' => e = .returned (.int .i64 (n : Nat)) ∧ w = w' := by
  have fc := blk_cell h
  go_enter Try.func13, Try.ntmps13
  go_wp2_with fail
  go_ret
  exact ⟨rfl, rfl⟩
theorem len_post {b : Nat} {F : Nat → Prop} {L : List Pcl} {w : World} (h : PostAt w b F L) :
    Calls Try.prog 13 #[.pointer (some ⟨b, 0, none⟩)] w fun e w' => e = .returned (.int .i64 (L.length : Nat)) ∧ w = w' := by
  obtain ⟨R, c, h1, _⟩ := h
  exact len_any b _ c R w h1

theorem send_no (b n c m cm : Nat) (A R : Option Addr) (tt : Int) (w : World) (h : w.heap[b]? = some (.cells #[.slice R m cm] 45 (0, 0))) (hno : tt < 1 ∨ 2 < tt ∨ 4096 < n ∨ 40 ≤ m) (hn : n ≤ 1000000) (hm : m ≤ 40) :
    Calls Try.prog 9 #[.pointer (some ⟨b, 0, none⟩), .int .i64 tt, .slice A n c] w fun e w' => e = .returned (.bool false) ∧ w = w' := by
  have fc := blk_cell h
  by_cases h1 : tt < 1
  · have d1 := dec_yes h1
    go_enter Try.func9, Try.ntmps9
    go_wp2_with fail
    go_ret
    exact ⟨rfl, rfl⟩
  · have d1 := dec_no h1
    by_cases h2 : 2 < tt
    · have d2 := dec_yes h2
      go_enter Try.func9, Try.ntmps9
      go_wp2_with fail
      go_ret
      exact ⟨rfl, rfl⟩
    · have d2 := dec_no h2
      by_cases h3 : 4096 < n
      · have d3 : decide (4096 < (n : Int)) = true := dec_yes (by omega)
        have d3' : decide (4096 < n) = true := dec_yes h3
        go_enter Try.func9, Try.ntmps9
        go_wp2_with fail
        go_ret
        exact ⟨rfl, rfl⟩
      · have d3 : decide (4096 < (n : Int)) = false := dec_no (by omega)
        have d3' : decide (4096 < n) = false := dec_no h3
        have d4 : decide (40 ≤ (m : Int)) = true := dec_yes (by omega)
        have d4' : decide (40 ≤ m) = true := dec_yes (by omega)
        go_enter Try.func9, Try.ntmps9
        go_wp2_with fail
        go_ret
        exact ⟨rfl, rfl⟩

/-- What Send leaves, in plain words. -/
theorem send_post {w wa w3 : World} {b : Nat} {F : Nat → Prop} {L : List Pcl} {R A' A3 : Option Addr} {c0 n c' c3 : Nat} {tt : Int} {l : List Int} {o : Obj}
    (h1 : w.heap[b]? = some (.cells #[.slice R L.length c0] 45 (0, 0))) (h2 : w.ownsRow 0 35 2 (.slice R L.length c0) L.length (plc L)) (h3 : F b) (h4 : ∀ g, R = some ⟨g, 0, none⟩ → F g ∧ g ≠ b) (h5 : ∀ x ∈ L, Byt w b F R x) (h6 : ∀ k, F k → k < w.heap.size) (h7 : L.length < 40)
    (hba : Below w.heap.size w wa) (hby : wa.ownsRow w.heap.size 5 1 (.slice A' n c') n (cells .u8 l)) (hto : tt = 1 ∨ tt = 2) (hn : n ≤ 4096)
    (r1 : w3.ownsRow 0 35 2 (.slice A3 (L.length + 1) c3) (L.length + 1) (plc L ++ [.int .i64 tt, .slice A' n c'])) (r2 : (wa.alloc o).grownBy w3 (Value.slice R L.length c0).ownBlock) (r3 : (Value.slice A3 (L.length + 1) c3).ownBlock = (Value.slice R L.length c0).ownBlock ∨ (Value.slice A3 (L.length + 1) c3).ownBlock = some (wa.alloc o).heap.size) :
    PostAt (w3.setCell ⟨b, 0, none⟩ (.slice A3 (L.length + 1) c3)) b (fun k => F k ∨ (w.heap.size ≤ k ∧ k < w3.heap.size)) (L ++ [(tt, A', n, c', l)]) ∧ Fr F w (w3.setCell ⟨b, 0, none⟩ (.slice A3 (L.length + 1) c3)) := by
  have hbl := h6 b h3
  have hsa := hba.size
  have hs3 : wa.heap.size + 1 ≤ w3.heap.size := by have := r2.size; simpa using this
  have hRow : ∀ k, (Value.slice R L.length c0).ownBlock = some k → F k ∧ k ≠ b := fun k hk => h4 k (own_blk h2 hk)
  have hfrR : Fr (fun k => (Value.slice R L.length c0).ownBlock = some k) w w3 := ⟨r2.os.trans hba.os, r2.tape.trans hba.tape, r2.output.trans hba.output, by omega, fun k hk hn => by
    rw [r2.block k (by simp; omega) (fun e => hn e.symm), blk_old (by omega), hba.block k hk]⟩
  have hfr3 : Fr F w w3 := ⟨hfrR.os, hfrR.tape, hfrR.output, hfrR.size, fun k hk hn => hfrR.block k hk (fun e => hn (hRow k e).1)⟩
  have hbb : w3.heap[b]? = some (.cells #[.slice R L.length c0] 45 (0, 0)) := by
    rw [r2.block b (by simp; omega) (fun e => (hRow b e.symm).2 rfl), blk_old (by omega), hba.block b hbl]
    exact h1
  have hA3 : ∀ g, A3 = some ⟨g, 0, none⟩ → (F g ∧ g ≠ b ∧ R = some ⟨g, 0, none⟩) ∨ (wa.heap.size + 1 = g ∧ g < w3.heap.size) := fun g hg => by
    subst hg
    rcases r3 with e | e
    · have h8 := hRow g e.symm
      exact .inl ⟨h8.1, h8.2, own_blk h2 e.symm⟩
    · simp [Value.ownBlock] at e
      rcases own_addr r1 with e2 | ⟨g', e2, _, e3⟩
      · cases e2
      · cases e2
        exact .inr ⟨by omega, e3⟩
  have hset : ∀ {base size n c : Nat} {e : TypeId} {A : Option Addr} {xs : List Value}, w3.ownsRow base e size (.slice A n c) n xs → (∀ g, A = some ⟨g, 0, none⟩ → g ≠ b) → (w3.setCell ⟨b, 0, none⟩ (.slice A3 (L.length + 1) c3)).ownsRow base e size (.slice A n c) n xs := by
    intro base size n c e A xs h hne
    refine own_keepBut (row := some b) h ⟨rfl, rfl, rfl, by simp [World.setCell], fun i hi hne => Below.heap_setCell _ _ _ _ (by rintro rfl; exact hne rfl)⟩ (fun g hg e => ?_)
    have := own_blk h hg
    exact hne g this (by injection e with e; exact e.symm)
  refine ⟨⟨A3, c3, ?_, ?_, .inl h3, ?_, ?_, ?_, by simp; omega⟩, ?_⟩
  · rw [List.length_append, List.length_cons, List.length_nil]
    exact blk_set hbb 0 _
  · have e : plc (L ++ [(tt, A', n, c', l)]) = plc L ++ [.int .i64 tt, .slice A' n c'] := plc_append _ _
    rw [e, List.length_append, List.length_cons, List.length_nil]
    refine hset r1 (fun g hg => ?_)
    rcases hA3 g hg with h | h
    · exact h.2.1
    · omega
  · intro g hg
    rcases hA3 g hg with h | h
    · exact ⟨.inl h.1, h.2.1⟩
    · exact ⟨.inr ⟨by omega, h.2⟩, by omega⟩
  · intro x hx
    rcases List.mem_append.1 hx with hx | hx
    · obtain ⟨q1, q2, q3, q4⟩ := h5 x hx
      refine ⟨hset (own_fr q1 hfrR (fun g hg e => (q2 g (own_blk q1 hg)).2.2 (own_blk h2 e))) (fun g hg => (q2 g hg).2.1), fun g hg => ⟨.inl (q2 g hg).1, (q2 g hg).2.1, fun e => ?_⟩, q3, q4⟩
      have hFg := (q2 g hg).1
      rcases hA3 g e with h | h
      · exact (q2 g hg).2.2 h.2.2
      · have := h6 g hFg; omega
    · simp at hx
      subst hx
      have hA' : ∀ g, A' = some ⟨g, 0, none⟩ → w.heap.size ≤ g ∧ g < wa.heap.size := fun g hg => by
        subst hg
        rcases own_addr hby with e | ⟨g', e, e2, e3⟩
        · cases e
        · cases e; exact ⟨e2, e3⟩
      refine ⟨hset (own_more (own_keepBut (hby.alloc _) r2 (fun g hg e => ?_)) (Nat.zero_le _)) (fun g hg => ?_), fun g hg => ⟨.inr ⟨(hA' g hg).1, by have := (hA' g hg).2; omega⟩, by have := (hA' g hg).1; omega, fun e => ?_⟩, hto, hn⟩
      · have h8 := (hA' g (own_blk hby hg)).1
        have h9 := h6 g (hRow g e).1
        omega
      · have := (hA' g hg).1; omega
      · have h8 := hA' g hg
        rcases hA3 g e with h | h
        · have := h6 g h.1; omega
        · omega
  · intro k hk
    rcases hk with hk | hk
    · have := h6 k hk; simp [World.setCell]; omega
    · simp [World.setCell]; omega
  · exact ⟨hfr3.os, hfr3.tape, hfr3.output, by simp [World.setCell]; exact hfr3.size, fun k hk hn => (Below.heap_setCell _ _ _ _ (by rintro rfl; exact hn h3)).trans (hfr3.block k hk hn)⟩
end Go.Proofs.Ytpgadahijhfphaa
