/- The law StripeSizes: the walk. -/
import Derived.Test.YtjbfkpajplmmgaaStrR
import Derived.Deep.DrawnRows
namespace Go.Proofs.Ytjbfkpajplmmgaa
open Go.RowKit
attribute [local go_sem ↓] Go.wp_at_zero Go.wp_at_succ

theorem info3 : (Try.prog.info? 3).map (fun i => (i.zero, i.size, i.bytes)) = some (some (.int .i64 0), 1, 8) := by kernel_rfl

/-- A row of numbers. -/
def rowOf (f : Nat → Nat) (n : Nat) : List Int := (List.range n).map fun b => (f b : Int)
theorem rowOf_length (f : Nat → Nat) (n : Nat) : (rowOf f n).length = n := by simp [rowOf]
theorem rowOf_get {f : Nat → Nat} {n b : Nat} (h : b < n) : (rowOf f n)[b]? = some (f b : Int) := by simp [rowOf, h]
theorem rowOf_set {f g : Nat → Nat} {n x : Nat} (h : ∀ k, k ≠ x → g k = f k) : (rowOf f n).set x (g x : Int) = rowOf g n := by
  apply List.ext_getElem?
  intro j
  rw [List.getElem?_set, rowOf_length]
  by_cases hj : j < n
  · by_cases e : x = j
    · subst e; rw [if_pos rfl, if_pos hj, rowOf_get hj]
    · rw [if_neg e, rowOf_get hj, rowOf_get hj, h j (fun e' => e e'.symm)]
  · have h1 : (rowOf f n)[j]? = none := List.getElem?_eq_none (by rw [rowOf_length]; omega)
    have h2 : (rowOf g n)[j]? = none := List.getElem?_eq_none (by rw [rowOf_length]; omega)
    rw [h1, h2]
    split
    · rw [if_neg (by omega)]
    · rfl
theorem rowOf_zero {f : Nat → Nat} (n : Nat) (h : ∀ k, f k = 0) : rowOf f n = List.replicate n 0 := by
  apply List.ext_getElem?
  intro j
  by_cases hj : j < n
  · rw [rowOf_get hj, h]; simp [hj]
  · rw [List.getElem?_eq_none (by rw [rowOf_length]; omega), List.getElem?_eq_none (by simp; omega)]

theorem oX_small {P Q C x : Nat} (h8 : 8 ≤ P * Q) (hC : 1 ≤ C) (hC4 : C ≤ 4) (hx : x < 512) : oX P Q C x ≤ 66 := by
  unfold oX
  have e1 : x / P / C / Q = x / (P * Q) / C := by
    rw [Nat.div_div_eq_div_mul, Nat.div_div_eq_div_mul, Nat.div_div_eq_div_mul]
    congr 1
    rw [Nat.mul_assoc, Nat.mul_comm C Q, ← Nat.mul_assoc]
  have e2 : x / (P * Q) / C * C ≤ x / (P * Q) := by have := dm_back (x / (P * Q)) C; omega
  have e3 : x / (P * Q) ≤ x / 8 := Nat.div_le_div_left h8 (by decide)
  have e4 := Nat.mod_lt (x / P) (by omega : 0 < C)
  rw [e1]
  omega
theorem topX_small {P Q C : Nat} (h8 : 8 ≤ P * Q) (hC : 1 ≤ C) (hC4 : C ≤ 4) : ∀ n, n ≤ 512 → topX P Q C n ≤ 67
  | 0, _ => by simp [topX]
  | n + 1, h => by
    have ih := topX_small h8 hC hC4 n (by omega)
    have := oX_small (P := P) (Q := Q) (C := C) (x := n) h8 hC hC4 (by omega)
    simp only [topX]
    omega
theorem heldN_nat {N : Nat} (h : N ≤ 512) : heldN (N : Int) = N := by unfold heldN; rw [if_neg (by omega), if_neg (by omega), Int.toNat_natCast]
theorem sumC_le {f : Nat → Nat} {m n : Nat} (h : m ≤ n) : sumC f m ≤ sumC f n := by
  induction n with
  | zero => obtain rfl : m = 0 := by omega
            exact Nat.le_refl _
  | succ n ih =>
    by_cases e : m = n + 1
    · subst e; exact Nat.le_refl _
    · simp only [sumC]; have := ih (by omega); omega

set_option maxRecDepth 20000 in
set_option maxHeartbeats 4000000 in
theorem sizes_law (a b c size : Int) (w : World) :
    Calls Try.prog 5 #[.int .i64 a, .int .i64 b, .int .i64 c, .int .i64 size] w fun e w' => e = .returned (.bool true) ∧ Below w.heap.size w w' := by
  obtain ⟨i0, hi0, hz0, hz1, hz2⟩ := info_parts info3
  obtain ⟨U, D, C, u2, d6, d3, c1, c4, hC, hsh⟩ := shape8_any a b c w
  obtain ⟨Z, hZ⟩ : ∃ F : Nat, size % 1024 = (F : Int) := ⟨(size % 1024).toNat, by omega⟩
  have H1 : bits .and .i64 size 1023 = (Z : Int) := by rw [← hZ]; exact i64_mask 10 (by decide) size 1023 (by decide)
  obtain ⟨N, hN⟩ : ∃ F : Nat, Z % 513 = F := ⟨_, rfl⟩
  have H2 : (Z : Int) % 513 = (N : Int) := by omega
  have hN2 : N ≤ 512 := by omega
  clear hZ hN
  have hob := fun w => by
    have := objects_yes U D C (N : Int) w u2 d6 d3 c1 c4
    rw [heldN_nat hN2] at this
    exact this
  have hby := fun (B : Nat) (hB : B ≤ 1048576) w => by
    have := bytes_yes U D C B (N : Int) w u2 d6 d3 c1 c4 hB
    rw [heldN_nat hN2] at this
    exact this
  have hpl := fun (X : Nat) (hX : X ≤ 1073741824) w => place_yes U D C X w u2 d6 d3 c1 c4 hX
  obtain ⟨P, hP, p1, p2⟩ := pow_small (U := U) (by omega)
  obtain ⟨Q, hQ, q1, q2⟩ := pow_small (U := D) (by omega)
  have h8 : 8 ≤ P * Q := by
    rw [← hP, ← hQ, ← Nat.pow_add]
    exact Nat.pow_le_pow_right (n := 2) (i := 3) (by decide) d3
  have h64 : P * Q ≤ 64 := by
    rw [← hP, ← hQ, ← Nat.pow_add]
    exact Nat.pow_le_pow_right (n := 2) (j := 6) (by decide) d6
  have hO := topX_small (P := P) (Q := Q) (C := C) h8 c1 c4 N hN2
  have hge := fun i => topX_ge (P := P) (Q := Q) (C := C) (n := N) (i := i)
  have hct := fun b n => cnt_top (P := P) (Q := Q) (C := C) (b := b) (by omega) (by omega) n
  have hsum := fun m => sumC_cnt (P := P) (Q := Q) (C := C) (m := m) N
  have his := topX_is (P := P) (Q := Q) (C := C) (n := N)
  have hnone := fun b => topA_none (P := P) (Q := Q) (C := C) (b := b) (size := N)
  have hoa := fun x => oA_lt (P := P) (Q := Q) (c := C) (by omega) (by omega) x
  have htl := fun b (n : Nat) => topA_le (P := P) (Q := Q) (C := C) (b := b) (m := 64) (n := n) (fun i _ _ => by have := hoa i; omega)
  rw [hP, hQ] at hob hby hpl
  obtain ⟨o, ho⟩ : ∃ o : Int, o = (U : Int) + D := ⟨_, rfl⟩
  obtain ⟨u, hu⟩ : ∃ u : Int, u = (U : Int) := ⟨_, rfl⟩
  obtain ⟨kk, hk⟩ : ∃ u : Int, u = (C : Int) := ⟨_, rfl⟩
  rw [← ho, ← hu, ← hk] at hsh hob hby hpl
  obtain ⟨O, hOe⟩ : ∃ O, topX P Q C N = O := ⟨_, rfl⟩
  rw [hOe] at hob hO hge his hnone
  clear hP hQ ho hu hk hC u2 d6 d3 c1 c4 p1 p2 q1 q2 h8 hOe
  have HGE := Lib.hid hge
  have HCT := Lib.hid hct
  have HSUM := Lib.hid hsum
  have HIS := Lib.hid his
  have HNONE := Lib.hid hnone
  have HOA := Lib.hid hoa
  have HTL := Lib.hid htl
  clear hge hct hsum his hnone hoa htl
  have e1 : decide ((O : Int) < 0) = false := dec_no (by omega)
  have e2 : decide (128 < (O : Int)) = false := dec_no (by omega)
  go_enter Try.func5, Try.ntmps5
  go_wp2_with fail
  refine hsh.mono ?_
  rintro e wa ⟨rfl, hb⟩
  clear hsh
  go_wp2_with fail
  rw [H2]
  refine (hob _).mono ?_
  rintro e wm ⟨rfl, hb1⟩
  have hcm : wm.heap[wa.heap.size]? = some (.cells #[.int .i64 o, .int .i64 u, .int .i64 kk] 23 (0, 0)) := (hb1.block _ (by simp <;> omega)).trans (blk_new rfl)
  have hzm : wa.heap.size < wm.heap.size := blk_lt hcm
  have hwm : Below w.heap.size w wm := hb.trans (Below.trans (B := w.heap.size) (a := wa) (by have := hb.size; exact (by repeat (first | with_reducible exact Below.refl _ _ | with_reducible assumption | with_reducible refine Below.drew ?_ | with_reducible refine below_drewN ?_ _ | with_reducible refine Below.setCell ?_ (by first | omega | (simp <;> omega)) _ | with_reducible refine Below.alloc ?_ (by first | omega | (simp <;> omega)) _))) (hb1.mono (by have := hb.size; simp <;> omega)))
  clear hb1 hb hob H1 H2
  go_wp2_with (first | (at_make; (refine wpList_make_one _ rfl (.tmp 34) (.tmp 34) 38 rfl wm.heap.size 3 i0 _ 8 Try.underlying38 hi0 hz0 hz1 hz2 rfl .i64 .i64 _ _ O rfl rfl rfl rfl (by omega) (by simp only [maxLen]; omega) (Nat.le_refl _) ?_; intro A1 k1 w3 hown1 hg3 hb3 hob; clear hob hg3)) | (at_make; (refine wpList_make_one _ rfl (.tmp 36) (.tmp 36) 38 rfl w3.heap.size 3 i0 _ 8 Try.underlying38 hi0 hz0 hz1 hz2 rfl .i64 .i64 _ _ O rfl rfl rfl rfl (by omega) (by simp only [maxLen]; omega) (Nat.le_refl _) ?_; intro A2 k2 w4 hown2 hg4 hb4 hob; clear hob hg4)))
  have hA1 : ∀ g, A1 = some ⟨g, 0, none⟩ → g < w3.heap.size := fun g h => (own_lt hown1 (g := g) (by rw [h]; rfl)).2
  have HA1 := Lib.hid hA1
  clear hA1
  have hown1' := own_below hown1 hb4 (Nat.le_refl _)
  have hbw4 : Below wm.heap.size wm w4 := hb3.trans (hb4.mono hb3.size)
  rw [cells_replicate, ← rowOf_zero (f := fun b => cnt P Q C b 0) O (fun _ => rfl)] at hown1'
  rw [cells_replicate, ← rowOf_zero (f := fun b => topA P Q C b 0) O (fun _ => rfl)] at hown2
  have hB2 : wm.heap.size ≤ w3.heap.size := hb3.size
  clear hown1 hb3 hb4
  go_loopg [13] N (fun gk v wr => ∃ i : Nat, i + gk = N ∧ v = .int .i64 (i : Nat) ∧ wr.ownsRow wm.heap.size 3 1 (.slice A1 O k1) O (cells .i64 (rowOf (fun b => cnt P Q C b i) O)) ∧ wr.ownsRow w3.heap.size 3 1 (.slice A2 O k2) O (cells .i64 (rowOf (fun b => topA P Q C b i) O)) ∧ Below wm.heap.size wm wr)
  case atStart => exact ⟨0, by omega, rfl, hown1', hown2, hbw4⟩
  case round =>
    obtain ⟨i, hk, rfl, ho1, ho2, hb⟩ := hrel
    have HK := Lib.hid hk
    have hkn : i ≤ N := by omega
    clear hk
    have hc := (hb.block _ hzm).trans hcm
    have fc := blk_cell hc
    have hz := blk_lt hc
    by_cases hlt : i < N
    · go_wp2_with fail
      refine (hpl i (by omega) _).mono ?_
      rintro e w2 ⟨rfl, hb2⟩
      obtain ⟨x, hx⟩ : ∃ x, oX P Q C i = x := ⟨_, rfl⟩
      obtain ⟨y, hy⟩ : ∃ x, oA P Q C i = x := ⟨_, rfl⟩
      have hxO := HGE.out i hlt
      have hyb := HOA.out i
      rw [hx] at hxO ⊢
      rw [hy] at hyb ⊢
      have ho1' := own_below ho1 hb2 (Nat.le_refl _)
      have ho2' := own_below ho2 hb2 (Nat.le_refl _)
      have hbm := hb.trans (hb2.mono hb.size)
      obtain ⟨g1, rfl, hg1c, hg1, x1, x2⟩ := own_at (j := x) ho1' (cells_get (rowOf_get (by omega)))
      obtain ⟨g2, rfl, hg2b, hg2, x3, x4⟩ := own_at (j := x) ho2' (cells_get (rowOf_get (by omega)))
      have hg1b := HA1.out g1 rfl
      have hct := HCT.out x i
      have htl := HTL.out x i
      obtain ⟨ct, hctE⟩ : ∃ v, cnt P Q C x i = v := ⟨_, rfl⟩
      obtain ⟨tp, htpE⟩ : ∃ v, topA P Q C x i = v := ⟨_, rfl⟩
      rw [hctE, htpE] at hct
      rw [htpE] at htl
      have x1' : w2.cell? ⟨g1, x, none⟩ = some (.int .i64 (ct : Nat)) := by rw [← hctE]; exact x1
      have x3' : w2.cell? ⟨g2, x, none⟩ = some (.int .i64 (tp : Nat)) := by rw [← htpE]; exact x3
      have hne : g2 ≠ g1 := by omega
      have hne' : g1 ≠ g2 := by omega
      have HE := Lib.hid (And.intro (And.intro hx hy) (And.intro hctE htpE))
      have d1 : decide ((x : Int) < 0) = false := dec_no (by omega)
      have d2 : decide ((O : Int) ≤ (x : Int)) = false := dec_no (by omega)
      have b1 : (0 : Int) ≤ (x : Int) := by omega
      have b2 : (x : Int) < (O : Int) := by omega
      clear hx hy hctE htpE x1 x3 hb2 hc fc hz hb ho1 ho2
      have hfin : ∀ m : Nat, (m : Int) = max (tp : Int) ((y : Int) + 1) → ((w2.setCell ⟨g1, x, none⟩ (.int .i64 ((ct : Int) + 1))).setCell ⟨g2, x, none⟩ (.int .i64 (m : Int))).ownsRow wm.heap.size 3 1 (.slice (some ⟨g1, 0, none⟩) O k1) O (cells .i64 (rowOf (fun b => cnt P Q C b (i + 1)) O)) ∧
          ((w2.setCell ⟨g1, x, none⟩ (.int .i64 ((ct : Int) + 1))).setCell ⟨g2, x, none⟩ (.int .i64 (m : Int))).ownsRow w3.heap.size 3 1 (.slice (some ⟨g2, 0, none⟩) O k2) O (cells .i64 (rowOf (fun b => topA P Q C b (i + 1)) O)) := by
        intro m hm
        obtain ⟨⟨hx, hy⟩, hctE, htpE⟩ := HE.out
        have s1 := (own_set ho1' x (.int .i64 ((ct : Int) + 1))).1
        have s2 := own_far ho2' (p := ⟨g1, x, none⟩) hg1b (.int .i64 ((ct : Int) + 1))
        have s3 := own_set s2 x (.int .i64 (m : Int))
        rw [cells_set] at s1
        have r1 : (rowOf (fun b => cnt P Q C b i) O).set x ((ct : Int) + 1) = rowOf (fun b => cnt P Q C b (i + 1)) O := by
          have this : (rowOf (fun b => cnt P Q C b i) O).set x ((cnt P Q C x (i + 1) : Nat) : Int) = rowOf (fun b => cnt P Q C b (i + 1)) O := rowOf_set (f := fun b => cnt P Q C b i) (g := fun b => cnt P Q C b (i + 1)) (n := O) (x := x) (fun k hk => by simp only [cnt]; rw [if_neg (by omega)])
          have h1 : cnt P Q C x (i + 1) = ct + 1 := by simp only [cnt]; rw [if_pos hx, hctE]
          rw [h1] at this
          exact this
        have r2 : (rowOf (fun b => topA P Q C b i) O).set x (m : Int) = rowOf (fun b => topA P Q C b (i + 1)) O := by
          have this : (rowOf (fun b => topA P Q C b i) O).set x ((topA P Q C x (i + 1) : Nat) : Int) = rowOf (fun b => topA P Q C b (i + 1)) O := rowOf_set (f := fun b => topA P Q C b i) (g := fun b => topA P Q C b (i + 1)) (n := O) (x := x) (fun k hk => by simp only [topA]; rw [if_neg (by omega)])
          have h1 : topA P Q C x (i + 1) = m := by simp only [topA]; rw [if_pos hx, htpE, hy]; omega
          rw [h1] at this
          exact this
        refine ⟨?_, ?_⟩
        · rw [← r1]
          exact own_keepBut s1 s3.2 (fun g hg => by simp only [Value.ownBlock] at hg; intro h; rw [← h] at hg; simp at hg; omega)
        · rw [← r2, ← cells_set]
          exact s3.1
      have HFIN := Lib.hid hfin
      clear hfin ho1' ho2'
      by_cases hm : tp < y + 1
      · have hm' : (tp : Int) < (y : Int) + 1 := by omega
        go_wp2_with fail
        go_roundg (N - (i + 1))
        case measure => have := HK.out; omega
        case rel =>
          have hf := HFIN.out (y + 1) (by omega)
          rw [show ((y + 1 : Nat) : Int) = (y : Int) + 1 by push_cast; rfl] at hf
          exact ⟨i + 1, by omega, by go_num, hf.1, hf.2, (hbm.setCell (by simp <;> omega) _).setCell (by simp <;> omega) _⟩
      · have hm' : ¬ (tp : Int) < (y : Int) + 1 := by omega
        go_wp2_with fail
        go_roundg (N - (i + 1))
        case measure => have := HK.out; omega
        case rel =>
          have hf := HFIN.out tp (by omega)
          exact ⟨i + 1, by omega, by go_num, hf.1, hf.2, (hbm.setCell (by simp <;> omega) _).setCell (by simp <;> omega) _⟩
    · obtain rfl : N = i := by omega
      have hsum := HSUM.out O (fun j hj => by have := HGE.out j hj; omega)
      have HS := Lib.hid hsum
      obtain ⟨ws, hws⟩ : ∃ v, v = wr := ⟨_, rfl⟩
      subst hws
      clear HK hkn hlt hsum fc
      go_wp2_with fail
      go_loopg [16, 17] O (fun gk v i wr => ∃ k t : Nat, k + gk = O ∧ i = .int .i64 (k : Nat) ∧ v = .int .i64 (t : Nat) ∧ Hid (sumC (fun b => cnt P Q C b N) k = t) ∧ t ≤ 512 ∧ Below ws.heap.size ws wr)
      case atStart => exact ⟨0, 0, by omega, rfl, rfl, Lib.hid rfl, by omega, Below.refl _ _⟩
      case round =>
        obtain ⟨k, t, hk, rfl, rfl, HT, ht, hbw⟩ := hrel
        have HK := Lib.hid hk
        have hkn : k ≤ O := by omega
        clear hk
        obtain ⟨W3, hW3⟩ : ∃ v, v = wr := ⟨_, rfl⟩
        subst hW3
        have hc3 := (hbw.block _ hz).trans hc
        have hz3 := blk_lt hc3
        have p1 := own_below ho1 hbw (Nat.le_refl _)
        have p2 := own_below ho2 hbw (Nat.le_refl _)
        by_cases hlt : k < O
        · obtain ⟨g1, rfl, hg1c, hg1, x1, -⟩ := own_at (j := k) p1 (cells_get (rowOf_get hlt))
          obtain ⟨g2, rfl, hg2b, hg2, x3, -⟩ := own_at (j := k) p2 (cells_get (rowOf_get hlt))
          have hct := HCT.out k N
          have htl := HTL.out k N
          have hb := fun w => hby k (by omega) w
          obtain ⟨ct, hctE⟩ : ∃ v, cnt P Q C k N = v := ⟨_, rfl⟩
          obtain ⟨tp, htpE⟩ : ∃ v, topA P Q C k N = v := ⟨_, rfl⟩
          rw [hctE, htpE] at hct
          rw [htpE] at htl hb
          have x1' : W3.cell? ⟨g1, k, none⟩ = some (.int .i64 (ct : Nat)) := by rw [← hctE]; exact x1
          have x3' : W3.cell? ⟨g2, k, none⟩ = some (.int .i64 (tp : Nat)) := by rw [← htpE]; exact x3
          have HE := Lib.hid hctE
          have b1 : (0 : Int) ≤ (k : Int) := by omega
          have b2 : (k : Int) < (O : Int) := by omega
          have d1 : ((tp : Int) != (tp : Int)) = false := by simp
          have d2 : decide ((tp : Int) < (ct : Int)) = false := dec_no (by omega)
          have d3 : decide (tp < ct) = false := dec_no (by omega)
          have hts : t + ct ≤ 512 := by
            have h1 : sumC (fun b => cnt P Q C b N) (k + 1) ≤ sumC (fun b => cnt P Q C b N) O := sumC_le hlt
            rw [HS.out] at h1
            simp only [sumC] at h1
            rw [HT.out, hctE] at h1
            omega
          clear hctE htpE x1 x3 p1 p2
          go_upto_region 20 with fail
          go_cut [96] (fun s96 wc => s96 = .bool false ∧ Below W3.heap.size W3 wc)
          case first =>
            have ks : ∀ W' : World, Below W3.heap.size W3 W' → (W'.cell? ⟨wa.heap.size, 0, none⟩ = some (.int .i64 o) ∧ W'.cell? ⟨wa.heap.size, 1, none⟩ = some (.int .i64 u) ∧ W'.cell? ⟨wa.heap.size, 2, none⟩ = some (.int .i64 kk) ∧ W'.cell? ⟨g1, k, none⟩ = some (.int .i64 (ct : Nat)) ∧ W'.cell? ⟨g2, k, none⟩ = some (.int .i64 (tp : Nat))) := fun W' hb => ⟨(hb.cell (p := ⟨wa.heap.size, 0, none⟩) hz3).trans (blk_cell hc3 0), (hb.cell (p := ⟨wa.heap.size, 1, none⟩) hz3).trans (blk_cell hc3 1), (hb.cell (p := ⟨wa.heap.size, 2, none⟩) hz3).trans (blk_cell hc3 2), (hb.cell (p := ⟨g1, k, none⟩) hg1).trans x1', (hb.cell (p := ⟨g2, k, none⟩) hg2).trans x3'⟩
            have KS := Lib.hid ks
            clear ks hc3 hz3 hc hz ho1 ho2 hbw hcm hzm hwm x1' x3' hg1 hg2 hg1c hg2b
            go_region_held3 (fun W' => W'.cell? ⟨wa.heap.size, 0, none⟩ = some (.int .i64 o) ∧ W'.cell? ⟨wa.heap.size, 1, none⟩ = some (.int .i64 u) ∧ W'.cell? ⟨wa.heap.size, 2, none⟩ = some (.int .i64 kk) ∧ W'.cell? ⟨g1, k, none⟩ = some (.int .i64 (ct : Nat)) ∧ W'.cell? ⟨g2, k, none⟩ = some (.int .i64 (tp : Nat)))
              (exact KS.out _ (by repeat (first | with_reducible exact Below.refl _ _ | with_reducible assumption | with_reducible refine Below.drew ?_ | with_reducible refine below_drewN ?_ _ | with_reducible refine Below.setCell ?_ (by first | omega | (simp <;> omega)) _ | with_reducible refine Below.alloc ?_ (by first | omega | (simp <;> omega)) _)))
              (first | (go_at_call 16; refine (hb _).mono ?_; rintro e wn ⟨rfl, hbn⟩; have hbN := Below.trans (B := W3.heap.size) (a := W3) (by repeat (first | with_reducible exact Below.refl _ _ | with_reducible assumption | with_reducible refine Below.drew ?_ | with_reducible refine below_drewN ?_ _ | with_reducible refine Below.setCell ?_ (by first | omega | (simp <;> omega)) _ | with_reducible refine Below.alloc ?_ (by first | omega | (simp <;> omega)) _)) (hbn.mono (by first | omega | (simp <;> omega))); have hsN := hbN.size; clear hbn))
            all_goals (go_wp2_with fail; go_meet; exact ⟨rfl, (by repeat (first | with_reducible exact Below.refl _ _ | with_reducible assumption | with_reducible refine Below.drew ?_ | with_reducible refine below_drewN ?_ _ | with_reducible refine Below.setCell ?_ (by first | omega | (simp <;> omega)) _ | with_reducible refine Below.alloc ?_ (by first | omega | (simp <;> omega)) _))⟩)
          case rest =>
            obtain ⟨rfl, hbc⟩ := hcut
            have x1'' := (hbc.cell (p := ⟨g1, k, none⟩) hg1).trans x1'
            clear hc3 hz3 x1' x3'
            go_wp2_with fail
            go_roundg (O - (k + 1))
            case measure => have := HK.out; omega
            case rel => exact ⟨k + 1, t + ct, by omega, by go_num, by go_num, Lib.hid (by simp only [sumC]; rw [HT.out, HE.out]), hts, hbw.trans (hbc.mono hbw.size)⟩
        · obtain rfl : O = k := by omega
          have hti : N = t := by rw [← HT.out, HS.out]
          subst hti
          have hbz := fun w => hby O (by omega) w
          rw [HNONE.out O (Nat.le_refl _)] at hbz
          have hwz := hwm.trans ((hb.trans (hbw.mono hb.size)).mono hwm.size)
          have k1 : ((N : Int) == (N : Int)) = true := by simp
          clear HK hkn hlt HS HT
          by_cases h0 : O = 0
          · have f3 := blk_cell hc3
            subst h0
            go_wp2_with fail
            refine (hbz _).mono ?_
            rintro e w7 ⟨rfl, hb7⟩
            go_wp2_with fail
            refine (known_any _).mono ?_
            rintro e w8 ⟨rfl, hb8⟩
            go_wp2_with fail
            go_ret
            exact ⟨rfl, hwz.trans ((hb7.trans (hb8.mono hb7.size)).mono hwz.size)⟩
          · obtain ⟨k', rfl⟩ : ∃ k', O = k' + 1 := ⟨O - 1, by omega⟩
            obtain ⟨g2, rfl, hg2b, hg2, x3, -⟩ := own_at (j := k') p2 (cells_get (rowOf_get (by omega)))
            obtain ⟨j, hj1, hj2⟩ := HIS.out (by omega)
            have htp := topA_ge (P := P) (Q := Q) (C := C) (b := k') hj1 (by omega)
            obtain ⟨tp, htpE⟩ : ∃ v, topA P Q C k' N = v := ⟨_, rfl⟩
            have x3' : W3.cell? ⟨g2, k', none⟩ = some (.int .i64 (tp : Nat)) := by rw [← htpE]; exact x3
            have htl := HTL.out k' N
            rw [htpE] at htp htl
            have d0 : (((k' + 1 : Nat) : Int) == 0) = false := by simp; omega
            have d3 : decide ((0 : Int) < (tp : Int)) = true := dec_yes (by omega)
            have f3 := blk_cell hc3
            clear htpE x3 h0 hj1 hj2 p1 p2
            go_wp2_with fail
            refine (hbz _).mono ?_
            rintro e w7 ⟨rfl, hb7⟩
            go_wp2_with fail
            refine (known_any _).mono ?_
            rintro e w8 ⟨rfl, hb8⟩
            go_wp2_with fail
            go_ret
            exact ⟨rfl, hwz.trans ((hb7.trans (hb8.mono hb7.size)).mono hwz.size)⟩
end Go.Proofs.Ytjbfkpajplmmgaa
