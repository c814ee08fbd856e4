/- The law PostApart: the walk. -/
import Derived.Test.YtpgadahijhfphaaPostK
namespace Go.Proofs.Ytpgadahijhfphaa
open Go.RowKit

theorem two_says {M : List Pcl} {l : List Int} (h : M.map says = [(2, l), (2, l)]) : ∃ B0 n0 d0 B1 n1 d1, M = [(2, B0, n0, d0, l), (2, B1, n1, d1, l)] := by
  match M, h with
  | [(t0, B0, n0, d0, l0), (t1, B1, n1, d1, l1)], h =>
    simp [says] at h
    obtain ⟨⟨rfl, rfl⟩, rfl, rfl⟩ := h
    exact ⟨B0, n0, d0, B1, n1, d1, rfl⟩

theorem own_set_other {w : World} {base size n c : Nat} {e : TypeId} {A : Option Addr} {xs : List Value} (h : w.ownsRow base e size (.slice A n c) n xs) {p : Addr} (hp : A ≠ some ⟨p.block, 0, none⟩) (u : Value) : (w.setCell p u).ownsRow base e size (.slice A n c) n xs :=
  own_fr h (fr_set w p u) (fun g hg e => hp (by rw [← e]; exact own_blk h hg))

set_option maxRecDepth 20000 in
set_option maxHeartbeats 4000000 in
theorem apart_law (A : Option Addr) (n c : Nat) (l : List Int) (x : Int) (w : World) (h : Reads w w.heap.size 1 A n c (cells .u8 l)) :
    Calls Try.prog 4 #[.slice A n c, .int .u8 x] w fun e w' => e = .returned (.bool true) ∧ Below w.heap.size w w' := by
  have hbig := h.big
  by_cases h3 : 300 < n
  · have d1 : decide (300 < (n : Int)) = true := dec_yes (by omega)
    go_enter Try.func4, Try.ntmps4
    go_wp2_with fail
    refine (known_any _).mono ?_
    rintro e w2 ⟨rfl, hb2⟩
    go_wp2_with fail
    go_ret
    exact ⟨rfl, hb2⟩
  · have d1 : decide (300 < (n : Int)) = false := dec_no (by omega)
    have d1' : decide (300 < n) = false := dec_no h3
    have hlen := h.length
    have HL := Lib.hid hlen
    clear hlen
    go_enter Try.func4, Try.ntmps4
    go_wp2_with fail
    refine (new_any _).mono ?_
    rintro e w1 ⟨rfl, hw1⟩
    have hp := new_post w
    rw [hw1] at hp
    have hb1 : Below w.heap.size w w1 := by rw [← hw1]; exact (Below.refl _ _).alloc (Nat.le_refl _) _
    have HP := Lib.hid hp
    clear hw1 hp
    go_wp2_with fail
    refine (send_yes w.heap.size n c A 2 l _ [] w1 HP.out (h.next hb1) (.inr rfl) (by omega) (by decide)).mono ?_
    rintro e w2 ⟨rfl, hs⟩
    obtain ⟨A1, c1, F1, s1, s2, s3⟩ := hs
    rw [List.nil_append] at s1
    have hb2 : Below w.heap.size w w2 := fr_below hb1 s2 (fun k hk => by rw [hk]; exact Nat.le_refl _)
    have g1 : ∀ k, F1 k → w.heap.size ≤ k := fun k hk => (s3 k hk).elim (fun e => by rw [e]; exact Nat.le_refl _) (fun e => Nat.le_trans hb1.size e)
    have hd : Calls Try.prog 12 #[.pointer (some ⟨w.heap.size, 0, none⟩), .int .i64 0] w2 _ := double_yes w.heap.size 0 F1 _ w2 s1 rfl (by simp)
    clear s1 s2 s3 HP hb1
    go_wp2_with fail
    refine hd.mono ?_
    rintro e w3 ⟨rfl, hs⟩
    obtain ⟨A2, c2, F, s1, s2, s3⟩ := hs
    have hb3 : Below w.heap.size w w3 := fr_below hb2 s2 g1
    have g2 : ∀ k, F k → w.heap.size ≤ k := fun k hk => (s3 k hk).elim (g1 k) (fun e => Nat.le_trans hb2.size e)
    have g3 : ∀ k, F k → k < w3.heap.size := by obtain ⟨_, _, _, _, _, _, _, q, _⟩ := s1; exact q
    obtain ⟨L2, hL2⟩ : ∃ L2, L2 = [(2, A1, n, c1, l)] ++ [((2 : Int), A2, n, c2, l)] := ⟨_, rfl⟩
    rw [← hL2] at s1
    have hL0 : L2[0]? = some (2, A1, n, c1, l) := by rw [hL2]; rfl
    have hLs : L2.map says = [(2, l), (2, l)] := by rw [hL2]; rfl
    have hLl : L2.length = 2 := by rw [hL2]; rfl
    have hLd : L2.take 0 ++ L2.drop (0 + 1) = [(2, A2, n, c2, l)] := by rw [hL2]; rfl
    have hg : Calls Try.prog 10 #[.pointer (some ⟨w.heap.size, 0, none⟩), .int .i64 0] w3 (Got w3 2 n l) := at_yes w.heap.size 0 F L2 w3 s1 hL0
    have HG2 := Lib.hid g2
    have HG3 := Lib.hid g3
    have HP := Lib.hid s1
    have HLS := Lib.hid (And.intro (And.intro hL0 hLs) (And.intro hLl hLd))
    clear hL2 hL0 hLs hLl hLd s1 s2 s3 g1 g2 g3 hd hb2
    go_wp2_with fail
    refine hg.mono ?_
    rintro e w4 ⟨Ap, cp, rfl, hbyp, hb4⟩
    clear hg
    go_upto_region 7 with fail
    obtain ⟨wq, hwq⟩ : ∃ v, v = w4.alloc (.cells #[.int .i64 2, .slice Ap n cp] 35) := ⟨_, rfl⟩
    rw [← hwq]
    have kq : wq.heap[w4.heap.size]? = some (.cells #[.int .i64 2, .slice Ap n cp] 35 (0, 0)) := by rw [hwq]; exact blk_new rfl
    have hbq4 : Below w4.heap.size w4 wq := by rw [hwq]; exact (Below.refl _ _).alloc (Nat.le_refl _) _
    have hbq : Below w3.heap.size w3 wq := hb4.trans (hbq4.mono hb4.size)
    have hpq := own_below hbyp hbq4 (Nat.le_refl _)
    have hpb : ∀ g, Ap = some ⟨g, 0, none⟩ → w3.heap.size ≤ g ∧ g < w4.heap.size := fun g hg => by
      subst hg
      rcases own_addr hbyp with e | ⟨g', e, e2, e3⟩
      · cases e
      · cases e; exact ⟨e2, e3⟩
    have hp4 := hb4.size
    have hzq : wq.heap.size = w4.heap.size + 1 := by rw [hwq]; simp
    have hl : Calls Try.prog 15 #[.pointer (some ⟨w.heap.size, 0, none⟩)] wq (Listed wq L2) := list_any w.heap.size F L2 wq (HP.out.below hbq)
    have HZQ := Lib.hid hzq
    clear hwq hbyp hb4 hbq4 hzq
    go_wp2_with fail
    refine hl.mono ?_
    rintro e W ⟨AL, cL, rfl, ⟨M, m1, m2, m3⟩, hb5⟩
    rw [HLS.out.2.1] at m2 ⊢
    rw [HLS.out.1.2] at m1
    obtain ⟨B0, n0, d0, B1, n1, dd, rfl⟩ := two_says m1
    have hq1 := m3 (2, B1, n1, dd, l) (by simp)
    have e1 : l.length = n1 := own_length hq1.1
    obtain rfl : n1 = n := by have := HL.out; omega
    have hq1' : W.ownsRow wq.heap.size 5 1 (.slice B1 n1 dd) n1 (cells .u8 l) := hq1.1
    have hq1n : ∀ g, B1 = some ⟨g, 0, none⟩ → AL ≠ some ⟨g, 0, none⟩ := hq1.2
    obtain ⟨gr, rfl, hgr, hgrl, r0, f0⟩ := own_at (j := 0) m2 rfl
    obtain ⟨g', e, -, -, r3, -⟩ := own_at (j := 3) m2 rfl
    cases e
    have kW := (hb5.block _ (blk_lt kq)).trans kq
    have hpW := own_below hpq hb5 (Nat.le_refl _)
    have hbW : Below w3.heap.size w3 W := hbq.trans (hb5.mono hbq.size)
    have hPW := HP.out.below hbW
    have hqb : ∀ g, B1 = some ⟨g, 0, none⟩ → wq.heap.size ≤ g ∧ g ≠ gr := fun g hg => by
      have hne := hq1n g hg
      subst hg
      rcases own_addr hq1' with e | ⟨g', e, e2, e3⟩
      · cases e
      · cases e; exact ⟨e2, fun e => hne (by rw [e])⟩
    have HPB := Lib.hid hpb
    have HQB := Lib.hid hqb
    have hwW : Below w.heap.size w W := hb3.trans (hbW.mono hb3.size)
    have x6 := blk_cell kW
    clear hpb hqb hl m1 m3 hq1 hq1n kq hpq hb5 e1
    have nn : ((n1 : Int) != (n1 : Int)) = false := by simp
    have b4 : w4.heap.size < wq.heap.size := by have := HZQ.out; omega
    have HROW := Lib.hid m2
    have HP0 := Lib.hid hpW
    have HQ0 := Lib.hid hq1'
    clear m2 hpW hq1' d1 d1' h3 hbq hbW
    go_wp2_with fail
    clear r0 r3 f0 x6
    go_loopg [9] n1 (fun gk v wr => ∃ (k : Nat) (lp lq : List Int), k + gk = n1 ∧ v = .int .i64 (k : Nat) ∧ wr.ownsRow w3.heap.size 5 1 (.slice Ap n1 cp) n1 (cells .u8 lp) ∧ wr.ownsRow wq.heap.size 5 1 (.slice B1 n1 dd) n1 (cells .u8 lq) ∧ wr.heap[w4.heap.size]? = some (.cells #[.int .i64 2, .slice Ap n1 cp] 35 (0, 0)) ∧
        wr.ownsRow wq.heap.size 35 2 (.slice (some ⟨gr, 0, none⟩) 2 cL) 2 (plc [(2, B0, n0, d0, l), (2, B1, n1, dd, l)]) ∧ Hid (PostAt wr w.heap.size F L2) ∧ Below w.heap.size w wr)
    case atStart => exact ⟨0, l, l, by omega, rfl, HP0.out, HQ0.out, kW, HROW.out, Lib.hid hPW, hwW⟩
    case round =>
      obtain ⟨k, lp, lq, hk, rfl, op, oq, kb, orow, HPr, hbr⟩ := hrel
      have HK := Lib.hid hk
      have hkn : k ≤ n1 := by omega
      clear hk kW hPW hwW HROW HP0 HQ0
      obtain ⟨wo, hwo⟩ : ∃ v, v = wr := ⟨_, rfl⟩
      subst hwo
      by_cases hlt : k < n1
      · have llp := own_length op
        have llq := own_length oq
        obtain ⟨xp, hxp⟩ : ∃ x, lp[k]? = some x := ⟨_, List.getElem?_eq_getElem (by omega)⟩
        obtain ⟨xq, hxq⟩ : ∃ x, lq[k]? = some x := ⟨_, List.getElem?_eq_getElem (by omega)⟩
        obtain ⟨gp, rfl, hgp, hgpl, p0, p1⟩ := own_at (j := k) op (cells_get hxp)
        obtain ⟨gq, rfl, hgq, hgql, q0, q1⟩ := own_at (j := k) oq (cells_get hxq)
        obtain ⟨g', e, -, -, r3, -⟩ := own_at (j := 3) orow rfl
        cases e
        have a1 := HPB.out gp rfl
        have a2 := HQB.out gq rfl
        have x6 := blk_cell kb 1
        have z1 : ¬ gr = gp := by omega
        have z2 : ¬ gp = gr := by omega
        have z3 : ¬ gq = gp := by omega
        have z4 : ¬ gp = gq := by omega
        have z5 : ¬ w4.heap.size = gp := by omega
        have z6 : ¬ gp = w4.heap.size := by omega
        have z7 : ¬ w4.heap.size = gq := by omega
        have b0 : (0 : Int) ≤ (k : Int) := by omega
        have bk : (k : Int) < (n1 : Int) := by omega
        have OP := Lib.hid op
        have OQ := Lib.hid oq
        have OR := Lib.hid orow
        clear hxp hxq op oq orow llp llq
        go_wp2_with fail
        go_roundg (n1 - (k + 1))
        case measure => have := HK.out; omega
        case rel =>
          have t1 := own_set OP.out k (.int .u8 (bits .xor .u8 xp 1))
          rw [cells_set] at t1
          have t2 := own_set (own_set_other OQ.out (p := ⟨gp, k, none⟩) (fun e => z3 (by injection e with e; injection e)) (.int .u8 (bits .xor .u8 xp 1))) k (.int .u8 (bits .xor .u8 xq 2))
          rw [cells_set] at t2
          refine ⟨k + 1, _, _, by omega, by go_num, own_set_other t1.1 (p := ⟨gq, k, none⟩) (fun e => z4 (by injection e with e; injection e)) _, t2.1, blk_far (blk_far kb (p := ⟨gp, k, none⟩) z5 _) (p := ⟨gq, k, none⟩) z7 _, own_set_other (own_set_other OR.out (p := ⟨gp, k, none⟩) (fun e => z1 (by injection e with e; injection e)) _) (p := ⟨gq, k, none⟩) (fun e => a2.2 (by injection e with e; injection e with e; exact e.symm)) _,
            Lib.hid (post_set (post_set HPr.out (p := ⟨gp, k, none⟩) (fun hF => by have h9 : gp < w3.heap.size := HG3.out _ hF; omega) _) (p := ⟨gq, k, none⟩) (fun hF => by have h9 : gq < w3.heap.size := HG3.out _ hF; omega) _), (hbr.setCell (by have := hb3.size; simp; omega) _).setCell (by have := hb3.size; simp; omega) _⟩
      · obtain rfl : k = n1 := by omega
        obtain ⟨g', e, -, hgro, r0, f0⟩ := own_at (j := 0) orow rfl
        cases e
        have hFr : ¬ F gr := fun hF => by have := HG3.out _ hF; omega
        have hpost := post_set HPr.out (p := ⟨gr, 0, none⟩) hFr (.int .i64 9)
        have hbr2 : Below w.heap.size w (wo.setCell ⟨gr, 0, none⟩ (.int .i64 9)) := hbr.setCell (by have := hb3.size; simp; omega) _
        have ht : Calls Try.prog 11 #[.pointer (some ⟨w.heap.size, 0, none⟩), .int .i64 0] (wo.setCell ⟨gr, 0, none⟩ (.int .i64 9)) _ := take_yes w.heap.size 0 F L2 _ hpost HLS.out.1.1
        clear op oq kb orow HPr hbr HPB HQB hpost HK hlt
        go_wp2_with fail
        refine ht.mono ?_
        rintro e w6 ⟨Aq, cq, rfl, hbyq, s1, s2⟩
        rw [HLS.out.2.2] at s1
        have hb6 : Below w.heap.size w w6 := fr_below hbr2 s2 HG2.out
        have hFq : ∀ g, Aq = some ⟨g, 0, none⟩ → ¬ F g ∧ w.heap.size ≤ g := fun g hg => by
          subst hg
          rcases own_addr hbyq with e | ⟨g', e, e2, e3⟩
          · cases e
          · cases e
            have e4 : wo.heap.size ≤ g := by simpa [World.setCell] using e2
            have := hb3.size
            exact ⟨fun hF => by have := HG3.out _ hF; omega, by omega⟩
        have hby0 : w6.ownsRow 0 5 1 (.slice Aq k cq) k (cells .u8 l) := own_more hbyq (Nat.zero_le _)
        have HFQ := Lib.hid hFq
        clear ht s2 hbr2 hbyq hFq r0 f0 hgro
        go_upto_region 17 with fail
        obtain ⟨wz, hwz⟩ : ∃ v, v = w6.alloc (.cells #[.int .i64 2, .slice Aq k cq] 35) := ⟨_, rfl⟩
        rw [← hwz]
        have kz : wz.heap[w6.heap.size]? = some (.cells #[.int .i64 2, .slice Aq k cq] 35 (0, 0)) := by rw [hwz]; exact blk_new rfl
        have hbz6 : Below w6.heap.size w6 wz := by rw [hwz]; exact (Below.refl _ _).alloc (Nat.le_refl _) _
        have hbz : Below w.heap.size w wz := hb6.trans (hbz6.mono hb6.size)
        have oz := own_below hby0 hbz6 (Nat.le_refl _)
        have hpz := s1.below hbz6
        have hq6 : ∀ g, Aq = some ⟨g, 0, none⟩ → g < w6.heap.size := fun g hg => by
          subst hg
          rcases own_addr hby0 with e | ⟨g', e, e2, e3⟩
          · cases e
          · cases e; exact e3
        have HQ6 := Lib.hid hq6
        have hcq : (convert 28 9 (.slice Aq k cq)).run Try.prog wz = .ok (.string (strOfNums l)) wz := run_str (Reads.of_own oz)
        have hcb : (convert 28 9 (.slice A k c)).run Try.prog wz = .ok (.string (strOfNums l)) wz := run_str (h.below hbz)
        have z0 := blk_cell kz 0
        have z1 := blk_cell kz 1
        have OZ := Lib.hid oz
        have HPZ := Lib.hid hpz
        clear hwz hbz6 hby0 s1 oz hpz hq6
        go_wp2_with fail
        clear hcq hcb z0 z1
        go_loopg [12] k (fun gk v wr => ∃ (j : Nat) (lq : List Int), j + gk = k ∧ v = .int .i64 (j : Nat) ∧ wr.ownsRow 0 5 1 (.slice Aq k cq) k (cells .u8 lq) ∧ wr.heap[w6.heap.size]? = some (.cells #[.int .i64 2, .slice Aq k cq] 35 (0, 0)) ∧ Hid (PostAt wr w.heap.size F [(2, A2, k, c2, l)]) ∧ Below w.heap.size w wr)
        case atStart => exact ⟨0, l, by omega, rfl, OZ.out, kz, HPZ, hbz⟩
        case round =>
          obtain ⟨j, lq, hj, rfl, oq, kb, HPr, hbr⟩ := hrel
          have HJ := Lib.hid hj
          have hjn : j ≤ k := by omega
          clear hj kz hbz OZ HPZ hb6
          obtain ⟨w7, hw7⟩ : ∃ v, v = wr := ⟨_, rfl⟩
          subst hw7
          have z1 := blk_cell kb 1
          by_cases hjl : j < k
          · have llq := own_length oq
            obtain ⟨xq, hxq⟩ : ∃ x, lq[j]? = some x := ⟨_, List.getElem?_eq_getElem (by omega)⟩
            obtain ⟨gq, rfl, hgq, hgql, q0, q1⟩ := own_at (j := j) oq (cells_get hxq)
            have a1 := HFQ.out gq rfl
            have a2 := HQ6.out gq rfl
            have b0 : (0 : Int) ≤ (j : Int) := by omega
            have bk : (j : Int) < (k : Int) := by omega
            have OQ := Lib.hid oq
            clear hxq oq llq
            go_wp2_with fail
            go_roundg (k - (j + 1))
            case measure => have := HJ.out; omega
            case rel =>
              have t1 := own_set OQ.out j (.int .u8 x)
              rw [cells_set] at t1
              exact ⟨j + 1, _, by omega, by go_num, t1.1, blk_far kb (p := ⟨gq, j, none⟩) (by simp; omega) _, Lib.hid (post_set HPr.out (p := ⟨gq, j, none⟩) a1.1 _), hbr.setCell a1.2 _⟩
          · have ht : Calls Try.prog 11 #[.pointer (some ⟨w.heap.size, 0, none⟩), .int .i64 0] w7 _ := take_yes w.heap.size 0 F [(2, A2, k, c2, l)] w7 HPr.out rfl
            clear oq HPr HFQ HQ6 HJ kb
            go_wp2_with fail
            refine ht.mono ?_
            rintro e w8 ⟨Ar, cr, rfl, hbyr, s1, s2⟩
            have hb8 : Below w.heap.size w w8 := fr_below hbr s2 HG2.out
            have s1' : PostAt w8 w.heap.size F [] := s1
            clear ht s2 hbr s1
            go_upto_region 24 with fail
            obtain ⟨wy, hwy⟩ : ∃ v, v = w8.alloc (.cells #[.int .i64 2, .slice Ar k cr] 35) := ⟨_, rfl⟩
            rw [← hwy]
            have ky : wy.heap[w8.heap.size]? = some (.cells #[.int .i64 2, .slice Ar k cr] 35 (0, 0)) := by rw [hwy]; exact blk_new rfl
            have hby8 : Below w8.heap.size w8 wy := by rw [hwy]; exact (Below.refl _ _).alloc (Nat.le_refl _) _
            have hby : Below w.heap.size w wy := hb8.trans (hby8.mono hb8.size)
            have oy := own_below hbyr hby8 (Nat.le_refl _)
            have hpy := s1'.below hby8
            have hcq : (convert 28 9 (.slice Ar k cr)).run Try.prog wy = .ok (.string (strOfNums l)) wy := run_str (Reads.of_own oy)
            have hcb : (convert 28 9 (.slice A k c)).run Try.prog wy = .ok (.string (strOfNums l)) wy := run_str (h.below hby)
            have y0 := blk_cell ky 0
            have y1 := blk_cell ky 1
            have HPY := Lib.hid hpy
            clear hwy hby8 hbyr s1' oy hpy hb8
            go_wp2_with fail
            refine (len_post HPY.out).mono ?_
            rintro e w9 ⟨rfl, rfl⟩
            go_wp2_with fail
            refine (known_any _).mono ?_
            rintro e w9 ⟨rfl, hb9⟩
            go_wp2_with fail
            go_ret
            exact ⟨rfl, hby.trans (hb9.mono hby.size)⟩
end Go.Proofs.Ytpgadahijhfphaa
