/- The law StripePieces: the walk. -/
import Derived.Test.YtjbfkpajplmmgaaStrR
namespace Go.Proofs.Ytjbfkpajplmmgaa
open Go.RowKit

theorem shift_u {u P : Nat} (hu : u ≤ 6) (hP : 2 ^ u = P) (hb : P ≤ 64) : Op.shift .shl .i64 1 .u64 (u : Int) = pure (.int .i64 (P : Int)) := by
  refine (shift_shl_i64 (x := 1) (yk := .u64) (y := (u : Int)) (by omega) (by omega)).trans ?_
  rw [Int.toNat_natCast, Int.one_mul, pow_cast, hP, IntWalk.i64_in (P : Int) (by omega)]
theorem u64_in {u : Nat} (hu : u ≤ 64) : IntKind.u64.wrap (u : Int) = (u : Int) := by
  rw [IntKind.wrap_u64]; omega

theorem pieces_far (a b c off n : Int) (w : World) (hf : 512 - (1 + n % 512) < off % 512) :
    Calls Try.prog 4 #[.int .i64 a, .int .i64 b, .int .i64 c, .int .i64 off, .int .i64 n] w fun e w' => e = .returned (.bool true) ∧ Below w.heap.size w w' := by
  obtain ⟨U, D, C, u2, d6, d3, c1, c4, hC, hsh⟩ := shape8_any a b c w
  have H1 : bits .and .i64 off 511 = off % 512 := i64_mask 9 (by decide) off 511 (by decide)
  have H2 : bits .and .i64 n 511 = n % 512 := i64_mask 9 (by decide) n 511 (by decide)
  have n1 : 0 ≤ n % 512 ∧ n % 512 < 512 := by omega
  have n2 : 0 ≤ off % 512 ∧ off % 512 < 512 := by omega
  obtain ⟨o, ho⟩ : ∃ o : Int, o = (U : Int) + D := ⟨_, rfl⟩
  obtain ⟨u, hu⟩ : ∃ u : Int, u = (U : Int) := ⟨_, rfl⟩
  obtain ⟨k, hk⟩ : ∃ u : Int, u = (C : Int) := ⟨_, rfl⟩
  rw [← ho, ← hu, ← hk] at hsh
  clear ho hu hk hC u2 d6 d3 c1 c4
  generalize off % 512 = F at *
  generalize n % 512 = N at *
  have hm := fun w => map_no o u k F (1 + N) w (.inr (.inr (.inr (.inr hf))))
  have e1 : decide (512 - (1 + N) < F) = true := dec_yes hf
  go_enter Try.func4, Try.ntmps4
  go_wp2_with fail
  refine hsh.mono ?_
  rintro e wa ⟨rfl, hb⟩
  clear hsh
  go_wp2_with fail
  refine (hm _).mono ?_
  rintro e w1 ⟨rfl, hb1⟩
  have hw1 : Below w.heap.size w w1 := hb.trans (Below.trans (B := w.heap.size) (a := wa) (by have := hb.size; exact (by repeat (first | with_reducible exact Below.refl _ _ | with_reducible assumption | with_reducible refine Below.drew ?_ | with_reducible refine below_drewN ?_ _ | with_reducible refine Below.setCell ?_ (by first | omega | (simp <;> omega)) _ | with_reducible refine Below.alloc ?_ (by first | omega | (simp <;> omega)) _))) (hb1.mono (by have := hb.size; simp <;> omega)))
  clear hb1 hb hm
  go_wp2_with fail
  refine (known_any _).mono ?_
  rintro e w2 ⟨rfl, hb2⟩
  go_wp2_with fail
  go_ret
  exact ⟨rfl, hw1.trans (hb2.mono hw1.size)⟩

theorem snoc_of {α : Type} : ∀ {L : List α}, L ≠ [] → ∃ L' x, L = L' ++ [x]
  | [], h => absurd rfl h
  | [x], _ => ⟨[], x, rfl⟩
  | x :: y :: r, _ => by
    obtain ⟨L', z, h⟩ := snoc_of (L := y :: r) (by simp)
    exact ⟨x :: L', z, by rw [h]; rfl⟩
theorem good_le {P Q C off : Nat} : ∀ {L1 L2 : List Pc} {n e : Nat}, goodP P Q C off (L1 ++ L2) n → goodP P Q C off L2 e → e ≤ n
  | [], _, n, e, h, h' => Nat.le_of_eq (good_end h' h)
  | (_, _, k, i) :: r, _, n, e, h, h' => by
    have h1 := h.1
    have h2 := good_le (L1 := r) (n := i) (e := e) h.2.2.2.2.2 h'
    omega
theorem good_next {P Q C off : Nat} {L1 L2 : List Pc} {o a k i n e : Nat} (h : goodP P Q C off (L1 ++ (o, a, k, i) :: L2) n) (h2 : goodP P Q C off L2 e) :
    i = e ∧ 1 ≤ k ∧ a + k ≤ P * Q ∧ (∀ j, j < k → oX P Q C (off + e + j) = o ∧ oA P Q C (off + e + j) = a + j) ∧ (∀ o' a' k' i' r', L2 = (o', a', k', i') :: r' → ¬ (o' = o ∧ a' + k' = a)) ∧ goodP P Q C off ((o, a, k, i) :: L2) (e + k) ∧ e + k ≤ n := by
  obtain ⟨e', h'⟩ := good_tail h
  have hh := h'
  obtain ⟨g1, g2, g3, g4, g5, g6⟩ := h'
  obtain rfl := good_end g6 h2
  have hg : goodP P Q C off ((o, a, k, i) :: L2) (i + k) := by rw [g1]; exact hh
  exact ⟨rfl, g2, g3, g4, g5, hg, good_le h hg⟩

theorem own_mid {w : World} {base : Nat} {A : Option Addr} {n c o a k i : Nat} {L1 r : List Pc} (h : w.ownsRow base 35 4 (.slice A n c) n (pcs (L1 ++ (o, a, k, i) :: r))) :
    ∃ g, A = some ⟨g, 0, none⟩ ∧ g < w.heap.size ∧ w.cell? ⟨g, r.length * 4, none⟩ = some (.int .i64 (o : Nat)) ∧ w.cell? ⟨g, r.length * 4 + 1, none⟩ = some (.int .i64 (a : Nat)) ∧ w.cell? ⟨g, r.length * 4 + 2, none⟩ = some (.int .i64 (k : Nat)) ∧ w.cell? ⟨g, r.length * 4 + 3, none⟩ = some (.int .i64 (i : Nat)) := by
  obtain ⟨p0, p1, p2, p3⟩ := pcs_last o a k i r
  rw [← pcs_mid L1 _ r _ (by omega)] at p0 p1 p2 p3
  obtain ⟨g, rfl, hb, hg, h0, -⟩ := own_at h p0
  obtain ⟨g', e, -, -, h1, -⟩ := own_at h p1
  cases e
  obtain ⟨g', e, -, -, h2, -⟩ := own_at h p2
  cases e
  obtain ⟨g', e, -, -, h3, -⟩ := own_at h p3
  cases e
  exact ⟨g, rfl, hg, h0, h1, h2, h3⟩

set_option maxRecDepth 20000 in
set_option maxHeartbeats 4000000 in
theorem pieces_near (a b c off n : Int) (w : World) (hf : off % 512 ≤ 512 - (1 + n % 512)) :
    Calls Try.prog 4 #[.int .i64 a, .int .i64 b, .int .i64 c, .int .i64 off, .int .i64 n] w fun e w' => e = .returned (.bool true) ∧ Below w.heap.size w w' := by
  obtain ⟨U, D, C, u2, d6, d3, c1, c4, hC, hsh⟩ := shape8_any a b c w
  have H1 : bits .and .i64 off 511 = off % 512 := i64_mask 9 (by decide) off 511 (by decide)
  have H2 : bits .and .i64 n 511 = n % 512 := i64_mask 9 (by decide) n 511 (by decide)
  obtain ⟨F, hF⟩ : ∃ F : Nat, off % 512 = (F : Int) := ⟨(off % 512).toNat, by omega⟩
  obtain ⟨M, hM⟩ : ∃ F : Nat, n % 512 = (F : Int) := ⟨(n % 512).toNat, by omega⟩
  rw [hF] at H1 hf
  rw [hM] at H2 hf
  clear hF hM
  have hlen := mapR_length (P := 2 ^ U) (Q := 2 ^ D) (C := C) (off := F) (1 + M)
  have hmp := fun w => by
    have := map_yes U D C F (1 + M) w u2 d6 d3 c1 c4 (by omega) (by omega)
    rw [show (((1 + M : Nat) : Int)) = 1 + (M : Int) by push_cast; rfl] at this
    exact this
  have hpl := fun (X : Nat) (x : Int) (hx : x = X) (hX : X ≤ 1073741824) w => by
    have := place_yes U D C X w u2 d6 d3 c1 c4 hX
    rw [← hx] at this
    exact this
  obtain ⟨P, hP, p1, p2⟩ := pow_small (U := U) (by omega)
  obtain ⟨Q, hQ, q1, q2⟩ := pow_small (U := D) (by omega)
  obtain ⟨S, hSe, s1, s2⟩ := pow_small (U := U + D) (by omega)
  have hS := shift_u (u := U + D) (by omega) hSe (by omega)
  have hcv := u64_in (u := U + D) (by omega)
  have hPQ : P * Q = S := by rw [← hSe, Nat.pow_add, hP, hQ]
  have hgood := good_map (P := P) (Q := Q) (C := C) (off := F) (by omega) (by omega) (1 + M)
  have hgnext := fun L1 L2 o a k i n e => good_next (P := P) (Q := Q) (C := C) (off := F) (L1 := L1) (L2 := L2) (o := o) (a := a) (k := k) (i := i) (n := n) (e := e)
  rw [hPQ] at hgnext
  rw [hP, hQ] at hmp hpl hlen
  obtain ⟨L, hL⟩ : ∃ L, mapR P Q C F (1 + M) = L := ⟨_, rfl⟩
  rw [hL] at hmp hgood hlen
  obtain ⟨o, ho⟩ : ∃ o : Int, o = (U : Int) + D := ⟨_, rfl⟩
  obtain ⟨u, hu⟩ : ∃ u : Int, u = (U : Int) := ⟨_, rfl⟩
  obtain ⟨kk, hk⟩ : ∃ u : Int, u = (C : Int) := ⟨_, rfl⟩
  rw [show ((U + D : Nat) : Int) = (U : Int) + D by push_cast; rfl] at hS hcv
  rw [← ho] at hS hcv
  rw [← ho, ← hu, ← hk] at hsh hmp hpl
  clear hP hQ hSe hL ho hu hk hC u2 d6 d3 c1 c4 p1 p2 q1 q2
  have HG := Lib.hid hgood
  have HPQ := Lib.hid hPQ
  have HN := Lib.hid hgnext
  obtain ⟨nl, hnl⟩ : ∃ nl, L.length = nl := ⟨_, rfl⟩
  rw [hnl] at hmp hlen
  have HNL := Lib.hid hnl
  clear hgood hgnext hnl hPQ
  have e1 : decide (512 - (1 + (M : Int)) < (F : Int)) = false := dec_no (by omega)
  go_enter Try.func4, Try.ntmps4
  go_wp2_with fail
  refine hsh.mono ?_
  rintro e wa ⟨rfl, hb⟩
  clear hsh
  go_wp2_with fail
  refine (hmp _).mono ?_
  rintro e wm ⟨A, c', rfl, hown, hb1⟩
  have hcm : wm.heap[wa.heap.size]? = some (.cells #[.int .i64 o, .int .i64 u, .int .i64 kk] 23 (0, 0)) := (hb1.block _ (by simp <;> omega)).trans (blk_new rfl)
  have hzm : wa.heap.size < wm.heap.size := blk_lt hcm
  have hwm : Below w.heap.size w wm := hb.trans (Below.trans (B := w.heap.size) (a := wa) (by have := hb.size; exact (by repeat (first | with_reducible exact Below.refl _ _ | with_reducible assumption | with_reducible refine Below.drew ?_ | with_reducible refine below_drewN ?_ _ | with_reducible refine Below.setCell ?_ (by first | omega | (simp <;> omega)) _ | with_reducible refine Below.alloc ?_ (by first | omega | (simp <;> omega)) _))) (hb1.mono (by have := hb.size; simp <;> omega)))
  clear hb1 hb hmp
  go_wp2_with fail
  clear e1
  go_loopg [13, 14] nl (fun gk v i wr => ∃ (q e : Nat) (L1 L2 : List Pc), q + gk = nl ∧ i = .int .i64 (q : Nat) ∧ v = .int .i64 (e : Nat) ∧ Hid (L = L1 ++ L2) ∧ Hid (L2.length = q) ∧ Hid (goodP P Q C F L2 e) ∧ e ≤ 1 + M ∧ Below wm.heap.size wm wr)
  case atStart => exact ⟨0, 0, L, [], by omega, rfl, rfl, Lib.hid (by simp), Lib.hid rfl, Lib.hid rfl, by omega, Below.refl _ _⟩
  case round =>
    obtain ⟨q, e, L1, L2, hk, rfl, rfl, HL, HQ, HE, heM, hb⟩ := hrel
    obtain ⟨wo, hwo⟩ : ∃ v, v = wr := ⟨_, rfl⟩
    subst hwo
    have HK := Lib.hid hk
    have hkn : q ≤ nl := by omega
    clear hk
    have hc := (hb.block _ hzm).trans hcm
    have fc := blk_cell hc
    have hz := blk_lt hc
    have how := own_below hown hb (Nat.le_refl _)
    by_cases hlt : q < nl
    · have hne : L1 ≠ [] := by
        intro h0
        have h1 := HL.out
        have h2 := HNL.out
        have h3 := HQ.out
        rw [h1, h0, List.nil_append] at h2
        omega
      obtain ⟨L1', x, rfl⟩ : ∃ L1' x, L1 = L1' ++ [x] := snoc_of hne
      obtain ⟨xo, xa, xk, xi⟩ := x
      have hL' : L = L1' ++ (xo, xa, xk, xi) :: L2 := by rw [HL.out, List.append_assoc]; rfl
      have hg := HG.out
      rw [hL'] at hg
      obtain ⟨hi, hk1, hk2, hk3, hk4, hk5, hk6⟩ := HN.out _ _ _ _ _ _ _ _ hg HE.out
      subst hi
      have how' := how
      rw [hL'] at how'
      obtain ⟨g, rfl, hgl, g0, g1, g2, g3⟩ := own_mid how'
      rw [HQ.out] at g0 g1 g2 g3
      have HL' := Lib.hid hL'
      have HK3 := Lib.hid hk3
      have HK4 := Lib.hid hk4
      have HK5 := Lib.hid hk5
      clear hg how' hk3 hk4 hk5 hL'
      have i1 : ((xi : Int) != (xi : Int)) = false := by simp
      have i2 : decide ((xk : Int) < 1) = false := dec_no (by omega)
      have i3 : decide ((xa : Int) < 0) = false := dec_no (by omega)
      have i4 : decide ((S : Int) < (xa : Int) + (xk : Int)) = false := dec_no (by omega)
      have i5 : decide (S < xa + xk) = false := dec_no (by omega)
      go_upto_region 11 with fail
      go_cut [110] (fun s110 ws => s110 = .bool false ∧ ∃ nq, ws = (wo.alloc (.cells #[.int .i64 xo, .int .i64 xa, .int .i64 xk, .int .i64 xi] 35)).drewN nq)
      case first =>
        rcases L2 with _ | ⟨⟨yo, ya, yk, yi⟩, L3⟩
        · obtain rfl : q = 0 := HQ.out.symm
          go_quiet (fail)
          go_wp2_with fail
          go_meet
          exact ⟨rfl, _, rfl⟩
        · obtain ⟨q', hq'⟩ : ∃ q', L3.length = q' := ⟨_, rfl⟩
          obtain rfl : q = q' + 1 := by rw [← HQ.out, List.length_cons, hq']
          have how2 := how
          rw [show L = (L1' ++ [(xo, xa, xk, xi)]) ++ (yo, ya, yk, yi) :: L3 by rw [HL'.out]; simp] at how2
          obtain ⟨g', e', -, y0, y1, y2, y3⟩ := own_mid how2
          cases e'
          rw [hq'] at y0 y1 y2 y3
          have hno := HK4.out _ _ _ _ _ rfl
          have hys := HE.out.2.2.1
          rw [HPQ.out] at hys
          have HNO := Lib.hid hno
          have HQ' := Lib.hid hq'
          clear hq' how2 hno
          by_cases he1 : yo = xo
          · have he2 : ¬ (ya + yk = xa) := fun h => HNO.out ⟨he1, h⟩
            have j1 : ((yo : Int) == (xo : Int)) = true := by simp [he1]
            have j2 : ((ya : Int) + (yk : Int) == (xa : Int)) = false := by simp; omega
            have HE1 := Lib.hid he1
            have HE2 := Lib.hid he2
            clear he1 he2
            go_quiet (fail)
            go_wp2_with fail
            go_meet
            exact ⟨rfl, _, rfl⟩
          · have j1 : ((yo : Int) == (xo : Int)) = false := by simp; omega
            have HE1 := Lib.hid he1
            clear he1
            go_quiet (fail)
            go_wp2_with fail
            go_meet
            exact ⟨rfl, _, rfl⟩
      case rest =>
        obtain ⟨rfl, nq, hws⟩ := hcut
        have hx : wc.heap[wo.heap.size]? = some (.cells #[.int .i64 xo, .int .i64 xa, .int .i64 xk, .int .i64 xi] 35 (0, 0)) := by rw [hws]; exact blk_new rfl
        have hbs : Below wo.heap.size wo wc := by rw [hws]; exact below_drewN ((Below.refl _ _).alloc (Nat.le_refl _) _) _
        have hcs := (hbs.block _ hz).trans hc
        have hbm : Below wm.heap.size wm wc := hb.trans (hbs.mono hb.size)
        have zx := blk_lt hx
        have zl := blk_lt hcs
        have fx := blk_cell hx
        clear hws hbs hc fc hz hb how g0 g1 g2 g3 i1 i2 i3 i4 i5
        go_wp2_with fail
        go_loopg [16] xk (fun gk v wq => ∃ j : Nat, j + gk = xk ∧ v = .int .i64 (j : Nat) ∧ Below wc.heap.size wc wq)
        case atStart => exact ⟨0, by omega, rfl, Below.refl _ _⟩
        case round =>
          obtain ⟨j, hj, rfl, hbj⟩ := hrel
          have HJ := Lib.hid hj
          have hjn : j ≤ xk := by omega
          clear hj
          have cx := (hbj.block _ zx).trans hx
          have cl := (hbj.block _ zl).trans hcs
          have fcx := blk_cell cx
          have fcl := blk_cell cl
          by_cases hjl : j < xk
          · go_wp2_with fail
            refine (hpl (F + xi + j) ((F : Int) + xi + j) (by push_cast; rfl) (by omega) _).mono ?_
            rintro e w2 ⟨rfl, hb2⟩
            rw [(HK3.out j hjl).1, (HK3.out j hjl).2, show ((xa + j : Nat) : Int) = (xa : Int) + j by push_cast; rfl]
            have dx := (hb2.block _ (blk_lt cx)).trans cx
            have fdx := blk_cell dx
            have hbk : Below wc.heap.size wc w2 := hbj.trans (hb2.mono hbj.size)
            have j1 : ((xo : Int) != (xo : Int)) = false := by simp
            have j2 : ((xa : Int) + (j : Int) != (xa : Int) + (j : Int)) = false := by simp
            clear cx cl fcx fcl hb2 hbj
            go_wp2_with fail
            go_roundg (xk - (j + 1))
            case measure => have := HJ.out; omega
            case rel => exact ⟨j + 1, by omega, by go_num, hbk⟩
          · obtain rfl : j = xk := by omega
            go_wp2_with fail
            go_roundg (nl - (q + 1))
            case measure => have := HK.out; omega
            case rel => exact ⟨q + 1, xi + j, L1', (xo, xa, j, xi) :: L2, by omega, by go_num, by go_num, HL', Lib.hid (by rw [List.length_cons, HQ.out]), HK5, by omega, hbm.trans (hbj.mono hbm.size)⟩
    · obtain rfl : q = nl := by omega
      have h1 := HL.out
      have h2 := HNL.out
      have h3 := HQ.out
      have h4 : L1 = [] := by
        rw [h1, List.length_append] at h2
        exact List.eq_nil_of_length_eq_zero (by omega)
      subst h4
      rw [List.nil_append] at h1
      have h5 := HE.out
      rw [← h1] at h5
      have h6 := good_end h5 HG.out
      have k1 : ((e : Int) == 1 + (M : Int)) = true := by simp; omega
      clear h1 h2 h3 h5 h6
      go_wp2_with fail
      refine (known_any _).mono ?_
      rintro e w2 ⟨rfl, hb2⟩
      go_wp2_with fail
      go_ret
      exact ⟨rfl, hwm.trans ((hb.trans (hb2.mono hb.size)).mono hwm.size)⟩

theorem pieces_law (a b c off n : Int) (w : World) :
    Calls Try.prog 4 #[.int .i64 a, .int .i64 b, .int .i64 c, .int .i64 off, .int .i64 n] w fun e w' => e = .returned (.bool true) ∧ Below w.heap.size w w' := by
  by_cases h : 512 - (1 + n % 512) < off % 512
  · exact pieces_far a b c off n w h
  · exact pieces_near a b c off n w (by omega)
end Go.Proofs.Ytjbfkpajplmmgaa
