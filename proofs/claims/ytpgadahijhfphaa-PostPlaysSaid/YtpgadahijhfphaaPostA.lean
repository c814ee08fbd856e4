/- A row of parcels in memory: what it is, and what keeps it. Conditions: those that each theorem states. -/
import Derived.Test.YtpgadahijhfphaaDel
namespace Go.Proofs.Ytpgadahijhfphaa
open Go.RowKit

/-- A parcel: to whom, where its bytes lie, the bytes. -/
abbrev Pcl : Type := Int × Option Addr × Nat × Nat × List Int
/-- The cells of parcels. -/
def plc : List Pcl → List Value
  | [] => []
  | (t, A, n, c, _) :: r => .int .i64 t :: .slice A n c :: plc r
/-- What a parcel says. -/
def says (x : Pcl) : Int × List Int := (x.1, x.2.2.2.2)

theorem plc_length : ∀ L : List Pcl, (plc L).length = L.length * 2
  | [] => rfl
  | (_, _, _, _, _) :: r => by simp only [plc, List.length_cons, plc_length r]; omega
theorem plc_append : ∀ L M : List Pcl, plc (L ++ M) = plc L ++ plc M
  | [], _ => rfl
  | (_, _, _, _, _) :: r, M => by simp only [plc, List.cons_append, plc_append r M]
theorem plc_take : ∀ (L : List Pcl) (i : Nat), plc (L.take i) = (plc L).take (i * 2)
  | [], i => by simp [plc]
  | _ :: _, 0 => by simp [plc]
  | (_, _, _, _, _) :: r, i + 1 => by
    rw [show (i + 1) * 2 = i * 2 + 1 + 1 by omega]
    simp only [plc, List.take_succ_cons, plc_take r i]
theorem plc_drop : ∀ (L : List Pcl) (i : Nat), plc (L.drop i) = (plc L).drop (i * 2)
  | [], i => by simp [plc]
  | _ :: _, 0 => by simp
  | (_, _, _, _, _) :: r, i + 1 => by
    rw [show (i + 1) * 2 = i * 2 + 1 + 1 by omega]
    simp only [plc, List.drop_succ_cons, plc_drop r i]
theorem plc_get : ∀ {L : List Pcl} {i : Nat} {t : Int} {A : Option Addr} {n c : Nat} {l : List Int}, L[i]? = some (t, A, n, c, l) → (plc L)[i * 2]? = some (.int .i64 t) ∧ (plc L)[i * 2 + 1]? = some (.slice A n c)
  | [], i, _, _, _, _, _, h => by simp at h
  | (_, _, _, _, _) :: r, 0, _, _, _, _, _, h => by
    simp at h
    obtain ⟨rfl, rfl, rfl, rfl, rfl⟩ := h
    exact ⟨rfl, rfl⟩
  | (_, _, _, _, _) :: r, i + 1, t, A, n, c, l, h => by
    rw [show (i + 1) * 2 = i * 2 + 1 + 1 by omega]
    simp only [plc, List.getElem?_cons_succ] at h ⊢
    exact plc_get h
theorem plc_oneCell : ∀ (L : List Pcl), ∀ u ∈ plc L, u.oneCell' = true
  | [], u, h => by simp [plc] at h
  | (_, _, _, _, _) :: r, u, h => by
    simp only [plc, List.mem_cons] at h
    rcases h with rfl | rfl | h
    · rfl
    · rfl
    · exact plc_oneCell r u h

/-- Nothing but the blocks of F has turned. -/
structure Fr (F : Nat → Prop) (w w' : World) : Prop where
  os : w'.os = w.os
  tape : w'.tape = w.tape
  output : w'.output = w.output
  size : w.heap.size ≤ w'.heap.size
  block : ∀ k, k < w.heap.size → ¬ F k → w'.heap[k]? = w.heap[k]?
theorem Fr.refl (F : Nat → Prop) (w : World) : Fr F w w := ⟨rfl, rfl, rfl, Nat.le_refl _, fun _ _ _ => rfl⟩
theorem Fr.of_below {F : Nat → Prop} {w w' : World} (h : Below w.heap.size w w') : Fr F w w' := ⟨h.os, h.tape, h.output, h.size, fun k hk _ => h.block k hk⟩
theorem Fr.trans {F F' : Nat → Prop} {a b c : World} (h : Fr F a b) (h' : Fr F' b c) (hF : ∀ k, F' k → F k ∨ a.heap.size ≤ k) : Fr F a c :=
  ⟨h'.os.trans h.os, h'.tape.trans h.tape, h'.output.trans h.output, Nat.le_trans h.size h'.size, fun k hk hn => (h'.block k (Nat.lt_of_lt_of_le hk h.size) (fun hf => by
    rcases hF k hf with h1 | h1
    · exact hn h1
    · omega)).trans (h.block k hk hn)⟩
theorem Fr.below {F : Nat → Prop} {w w' : World} (h : Fr F w w') {B : Nat} (hB : B ≤ w.heap.size) (hF : ∀ k, F k → B ≤ k) : Below B w w' :=
  ⟨h.os, h.tape, h.output, h.size, fun k hk => h.block k (by omega) (fun hf => by have := hF k hf; omega)⟩
theorem Fr.of_grown {F : Nat → Prop} {w w' : World} {g : Nat} (h : w.grownBy w' (some g)) (hF : F g) : Fr F w w' :=
  ⟨h.os, h.tape, h.output, h.size, fun k hk hn => h.block k hk (fun e => by injection e with e; subst e; exact hn hF)⟩
theorem Fr.cell {F : Nat → Prop} {w w' : World} (h : Fr F w w') {p : Addr} (hp : p.block < w.heap.size) (hn : ¬ F p.block) : w'.cell? p = w.cell? p := World.cell?_of_block (h.block p.block hp hn)
theorem own_fr {F : Nat → Prop} {w w' : World} {base size n : Nat} {e : TypeId} {v : Value} {xs : List Value} (h : w.ownsRow base e size v n xs) (hf : Fr F w w') (hn : ∀ g, v.ownBlock = some g → ¬ F g) : w'.ownsRow base e size v n xs := by
  obtain ⟨h1, h2⟩ := h
  refine ⟨h1, ?_⟩
  rcases h2 with h2 | ⟨g, cap, cur, hv, hb', hg, r⟩
  · exact .inl h2
  · exact .inr ⟨g, cap, cur, hv, hb', by rw [hf.block g (Array.getElem?_eq_some_iff.1 hg).1 (hn g (by rw [hv]; rfl))]; exact hg, r⟩
theorem Reads.fr {F : Nat → Prop} {w w' : World} {B size n c : Nat} {A : Option Addr} {xs : List Value} (h : Reads w B size A n c xs) (hf : Fr F w w') (hB : B ≤ w.heap.size) (hn : ∀ k, F k → B ≤ k) : Reads w' B size A n c xs :=
  h.keep fun p hp => hf.cell (by omega) (fun hq => by have := hn _ hq; omega)

/-- A parcel's bytes lie in a block of F that is neither the row's nor the holder's. -/
def Byt (w : World) (b : Nat) (F : Nat → Prop) (R : Option Addr) (x : Pcl) : Prop :=
  w.ownsRow 0 5 1 (.slice x.2.1 x.2.2.1 x.2.2.2.1) x.2.2.1 (cells .u8 x.2.2.2.2) ∧ (∀ g, x.2.1 = some ⟨g, 0, none⟩ → F g ∧ g ≠ b ∧ R ≠ some ⟨g, 0, none⟩) ∧ (x.1 = 1 ∨ x.1 = 2) ∧ x.2.2.1 ≤ 4096

/-- Block b holds a row of parcels L whose memory are the blocks of F. -/
def PostAt (w : World) (b : Nat) (F : Nat → Prop) (L : List Pcl) : Prop :=
  ∃ (R : Option Addr) (c : Nat), w.heap[b]? = some (.cells #[.slice R L.length c] 45 (0, 0)) ∧ w.ownsRow 0 35 2 (.slice R L.length c) L.length (plc L) ∧ F b ∧ (∀ g, R = some ⟨g, 0, none⟩ → F g ∧ g ≠ b) ∧
    (∀ x ∈ L, Byt w b F R x) ∧ (∀ k, F k → k < w.heap.size) ∧ L.length ≤ 40

theorem own_addr {w : World} {base size n c : Nat} {e : TypeId} {A : Option Addr} {xs : List Value} (h : w.ownsRow base e size (.slice A n c) n xs) : A = none ∨ ∃ g, A = some ⟨g, 0, none⟩ ∧ base ≤ g ∧ g < w.heap.size := by
  rcases h.2 with ⟨hv, _⟩ | ⟨g, cap, cur, hv, hb, hg, _⟩
  · injection hv with ha; exact .inl ha
  · injection hv with ha; exact .inr ⟨g, ha, hb, (Array.getElem?_eq_some_iff.1 hg).1⟩
theorem own_blk {base size n c g : Nat} {e : TypeId} {A : Option Addr} {xs : List Value} {w : World} (h : w.ownsRow base e size (.slice A n c) n xs) (hg : (Value.slice A n c).ownBlock = some g) : A = some ⟨g, 0, none⟩ := by
  rcases own_addr h with rfl | ⟨g', rfl, _⟩
  · cases hg
  · simp only [Value.ownBlock, Option.some.injEq] at hg; subst hg; rfl

theorem Byt.fr {w w' : World} {b : Nat} {F G : Nat → Prop} {R : Option Addr} {x : Pcl} (h : Byt w b F R x) (hf : Fr G w w') (hG : ∀ k, G k → F k → k = b ∨ R = some ⟨k, 0, none⟩) : Byt w' b F R x :=
  ⟨own_fr h.1 hf (fun g hg hGg => by
    have := h.2.1 g (own_blk h.1 hg)
    rcases hG g hGg this.1 with e | e
    · exact this.2.1 e
    · exact this.2.2 e), h.2⟩
theorem PostAt.fr {w w' : World} {b : Nat} {F G : Nat → Prop} {L : List Pcl} (h : PostAt w b F L) (hf : Fr G w w') (hG : ∀ k, G k → ¬ F k) : PostAt w' b F L := by
  obtain ⟨R, c, h1, h2, h3, h4, h5, h6, h7⟩ := h
  refine ⟨R, c, (hf.block b (h6 b h3) (fun h => hG b h h3)).trans h1, own_fr h2 hf (fun g hg hGg => hG g hGg (h4 g (own_blk h2 hg)).1), h3, h4, fun x hx => (h5 x hx).fr hf (fun k hk hFk => absurd hFk (hG k hk)), fun k hk => Nat.lt_of_lt_of_le (h6 k hk) hf.size, h7⟩
theorem PostAt.below {w w' : World} {b : Nat} {F : Nat → Prop} {L : List Pcl} (h : PostAt w b F L) (hb : Below w.heap.size w w') : PostAt w' b F L :=
  h.fr (Fr.of_below (F := fun _ => False) hb) (fun _ h => h.elim)
end Go.Proofs.Ytpgadahijhfphaa
