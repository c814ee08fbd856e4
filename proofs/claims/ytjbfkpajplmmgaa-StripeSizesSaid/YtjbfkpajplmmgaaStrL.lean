/- The pieces of a run: the walk of the program's. -/
import Derived.Test.YtjbfkpajplmmgaaStrK
import Derived.Test.YtjbfkpajplmmgaaStrC
namespace Go.Proofs.Ytjbfkpajplmmgaa
open Go.RowKit

theorem own_drewN {w : World} {base n size : Nat} {e : TypeId} {v : Value} {xs : List Value} (h : w.ownsRow base e size v n xs) (k : Nat) : (w.drewN k).ownsRow base e size v n xs := own_below (K := w.heap.size) h (below_drewN (Below.refl _ _) k) (Nat.le_refl _)

/-- What the walk wants of the last piece. -/
theorem own_last {w : World} {base : Nat} {A : Option Addr} {n c o a k i : Nat} {r : List Pc} (h : w.ownsRow base 35 4 (.slice A n c) n (pcs ((o, a, k, i) :: r))) :
    ∃ g, A = some ⟨g, 0, none⟩ ∧ base ≤ g ∧ g < w.heap.size ∧ w.cell? ⟨g, r.length * 4, none⟩ = some (.int .i64 (o : Nat)) ∧ w.cell? ⟨g, r.length * 4 + 1, none⟩ = some (.int .i64 (a : Nat)) ∧ w.cell? ⟨g, r.length * 4 + 2, none⟩ = some (.int .i64 (k : Nat)) ∧ w.frozen? ⟨g, r.length * 4 + 2, none⟩ = false := by
  obtain ⟨p0, p1, p2, p3⟩ := pcs_last o a k i r
  obtain ⟨g, rfl, hb, hg, h0, -⟩ := own_at h p0
  obtain ⟨g', e, -, -, h1, -⟩ := own_at h p1
  cases e
  obtain ⟨g', e, -, -, h2, h3⟩ := own_at h p2
  cases e
  exact ⟨g, rfl, hb, hg, h0, h1, h2, h3⟩

theorem map_no (o u c off n : Int) (w : World) (h : shapeL o u c = false ∨ off < 0 ∨ n < 1 ∨ 512 < n ∨ 512 - n < off) :
    Calls Try.prog 12 #[.agg #[.int .i64 o, .int .i64 u, .int .i64 c], .int .i64 off, .int .i64 n] w fun e w' => e = .returned (.slice none 0 0) ∧ Below w.heap.size w w' := by
  cases hs : shapeL o u c
  · have H := Lib.hid hs
    clear h hs
    go_enter Try.func12, Try.ntmps12
    go_wp2_with fail
    refine (shape_any _ _ _ _).mono ?_
    rintro e w1 ⟨rfl, rfl⟩
    rw [H.out]
    go_wp2_with fail
    go_ret
    exact ⟨rfl, by repeat (first | with_reducible exact Below.refl _ _ | with_reducible refine Below.alloc ?_ (by simp <;> omega) _)⟩
  · have H := Lib.hid hs
    have h' : off < 0 ∨ n < 1 ∨ 512 < n ∨ 512 - n < off := by
      rcases h with h | h
      · rw [hs] at h; cases h
      · exact h
    clear h hs
    by_cases d1 : off < 0
    · have e1 := dec_yes d1
      go_enter Try.func12, Try.ntmps12
      go_wp2_with fail
      refine (shape_any _ _ _ _).mono ?_
      rintro e w1 ⟨rfl, rfl⟩
      rw [H.out]
      go_wp2_with fail
      go_ret
      exact ⟨rfl, by repeat (first | with_reducible exact Below.refl _ _ | with_reducible refine Below.alloc ?_ (by simp <;> omega) _)⟩
    · have e1 := dec_no d1
      by_cases d2 : n < 1
      · have e2 := dec_yes d2
        go_enter Try.func12, Try.ntmps12
        go_wp2_with fail
        refine (shape_any _ _ _ _).mono ?_
        rintro e w1 ⟨rfl, rfl⟩
        rw [H.out]
        go_wp2_with fail
        go_ret
        exact ⟨rfl, by repeat (first | with_reducible exact Below.refl _ _ | with_reducible refine Below.alloc ?_ (by simp <;> omega) _)⟩
      · have e2 := dec_no d2
        by_cases d3 : 512 < n
        · have e3 := dec_yes d3
          go_enter Try.func12, Try.ntmps12
          go_wp2_with fail
          refine (shape_any _ _ _ _).mono ?_
          rintro e w1 ⟨rfl, rfl⟩
          rw [H.out]
          go_wp2_with fail
          go_ret
          exact ⟨rfl, by repeat (first | with_reducible exact Below.refl _ _ | with_reducible refine Below.alloc ?_ (by simp <;> omega) _)⟩
        · have e3 := dec_no d3
          have e4 : decide (512 - n < off) = true := dec_yes (by omega)
          go_enter Try.func12, Try.ntmps12
          go_wp2_with fail
          refine (shape_any _ _ _ _).mono ?_
          rintro e w1 ⟨rfl, rfl⟩
          rw [H.out]
          go_wp2_with fail
          go_ret
          exact ⟨rfl, by repeat (first | with_reducible exact Below.refl _ _ | with_reducible refine Below.alloc ?_ (by simp <;> omega) _)⟩

set_option maxRecDepth 20000 in
set_option maxHeartbeats 2000000 in
theorem map_yes (U D C off n : Nat) (w : World) (u2 : 2 ≤ U) (d6 : U + D ≤ 6) (d3 : 3 ≤ U + D) (c1 : 1 ≤ C) (c4 : C ≤ 4) (n1 : 1 ≤ n) (hoff : off + n ≤ 512) :
    Calls Try.prog 12 #[.agg #[.int .i64 ((U : Int) + D), .int .i64 U, .int .i64 C], .int .i64 (off : Nat), .int .i64 (n : Nat)] w fun e w' =>
      ∃ A c', e = .returned (.slice A (mapR (2 ^ U) (2 ^ D) C off n).length c') ∧ w'.ownsRow w.heap.size 35 4 (.slice A (mapR (2 ^ U) (2 ^ D) C off n).length c') (mapR (2 ^ U) (2 ^ D) C off n).length (pcs (mapR (2 ^ U) (2 ^ D) C off n)) ∧ Below w.heap.size w w' := by
  obtain ⟨i0, hi0, hz0, hz1, hz2⟩ := info_parts info35
  have H := Lib.hid (shape_of u2 d6 d3 c1 c4)
  have hpl := fun (X : Nat) (x : Int) (hx : x = X) (hX : X ≤ 1073741824) w => by
    have := place_yes U D C X w u2 d6 d3 c1 c4 hX
    rw [← hx] at this
    exact this
  obtain ⟨P, hP, p1, p2⟩ := pow_small (U := U) (by omega)
  obtain ⟨Q, hQ, q1, q2⟩ := pow_small (U := D) (by omega)
  have hPQ : P * Q ≤ 64 := by
    have : 2 ^ (U + D) ≤ 2 ^ 6 := Nat.pow_le_pow_right (by decide) d6
    rw [Nat.pow_add, hP, hQ] at this
    omega
  have hS := shift_one (u := U) (by omega) hP (by omega)
  have hmask : ∀ X : Nat, bits .and .i64 (X : Int) ((P : Int) - 1) = ((X % P : Nat) : Int) := fun X => by
    rw [i64_mask U (by omega) (X : Int) ((P : Int) - 1) (by rw [hP]; omega)]
    have : (P : Int) - 1 + 1 = (P : Int) := by omega
    rw [this, mod_cast']
  rw [hP, hQ] at hpl ⊢
  have hgood := fun m => good_map (P := P) (Q := Q) (C := C) (off := off) (by omega) (by omega) m
  have hstep := fun (at_ k : Nat) => mapR_unit (P := P) (Q := Q) (C := C) (off := off) (at_ := at_) (k := k)
  clear hP hQ
  obtain ⟨o, ho⟩ : ∃ o : Int, o = (U : Int) + D := ⟨_, rfl⟩
  obtain ⟨u, hu⟩ : ∃ u : Int, u = (U : Int) := ⟨_, rfl⟩
  rw [← ho, ← hu] at H hpl ⊢
  rw [← hu] at hS
  clear ho hu u2 d6 d3
  have HG := Lib.hid hgood
  have HSTEP := Lib.hid hstep
  have HMASK := Lib.hid hmask
  clear hgood hstep hmask
  have d1 : decide ((off : Int) < 0) = false := dec_no (by omega)
  have d2 : decide ((n : Int) < 1) = false := dec_no (by omega)
  have d3 : decide (512 < (n : Int)) = false := dec_no (by omega)
  have d4 : decide (512 - (n : Int) < (off : Int)) = false := dec_no (by omega)
  go_enter Try.func12, Try.ntmps12
  go_wp2_with fail
  refine (shape_any _ _ _ _).mono ?_
  rintro e w1 ⟨rfl, rfl⟩
  rw [H.out]
  go_wp2_with fail
  clear d1 d2 d3 d4
  go_loopg [7, 8] n (fun gk v i wr => ∃ (at_ q : Nat) (L : List Pc) (A : Option Addr) (c' : Nat), at_ + gk = n ∧ i = .int .i64 (at_ : Nat) ∧ v = .slice A q c' ∧ Hid (q = L.length) ∧ Hid (mapR P Q C off at_ = L) ∧ q ≤ at_ ∧
      wr.ownsRow (w.heap.size + 1) 35 4 (.slice A q c') q (pcs L) ∧ Below w.heap.size w wr ∧ wr.heap[w.heap.size]? = some (.cells #[.int .i64 o, .int .i64 u, .int .i64 C] 23 (0, 0)))
  case atStart =>
    refine ⟨0, 0, [], none, 0, by omega, rfl, rfl, Lib.hid rfl, Lib.hid rfl, Nat.le_refl _, World.ownsRow_nil _ _ _ _, ?_, (blk_old (by simp)).trans (blk_new rfl)⟩
    repeat (first | with_reducible exact Below.refl _ _ | with_reducible refine Below.alloc ?_ (by simp <;> omega) _)
  case round =>
    obtain ⟨at_, q, L, A, c', hk, rfl, rfl, HQ, HL, hqa, hown, hb, hc⟩ := hrel
    have HK := Lib.hid hk
    have hkn : at_ ≤ n := by omega
    clear hk
    have fc := blk_cell hc
    have hz := blk_lt hc
    by_cases hlt : at_ < n
    · go_wp2_with fail
      refine (hpl (off + at_) ((off : Int) + at_) (by omega) (by omega) _).mono ?_
      rintro e w2 ⟨rfl, hb2⟩
      obtain ⟨x, hx⟩ : ∃ x, oX P Q C (off + at_) = x := ⟨_, rfl⟩
      obtain ⟨y, hy⟩ : ∃ x, oA P Q C (off + at_) = x := ⟨_, rfl⟩
      have hxk := oX_le P Q C (off + at_)
      have hyk := oA_lt (P := P) (Q := Q) (c := C) (by omega) (by omega) (off + at_)
      rw [hx] at hxk
      rw [hy] at hyk
      rw [hx, hy]
      obtain ⟨m, hm⟩ : ∃ m, (off + at_) % P = m := ⟨_, rfl⟩
      have hmP : m < P := by rw [← hm]; exact Nat.mod_lt _ (by omega)
      have hM := HMASK.out (off + at_)
      rw [hm, show ((off + at_ : Nat) : Int) = (off : Int) + at_ by omega] at hM
      have HX := Lib.hid (And.intro hx (And.intro hy hm))
      have hc2 := (hb2.block _ hz).trans hc
      have fc2 := blk_cell hc2
      have hz2 := blk_lt hc2
      have hbb := hb.trans (hb2.mono hb.size)
      have hown2 := own_below hown hb2 (Nat.le_refl _)
      clear hx hy hm hc fc hz hb2 hb hown
      go_upto_region 7 with fail
      go_cut [11] (fun s11 wc => ∃ (k nq : Nat), s11 = .int .i64 (k : Nat) ∧ 1 ≤ k ∧ m + k ≤ P ∧ at_ + k ≤ n ∧ wc = w2.drewN nq)
      case first =>
        by_cases hmin : (P : Int) - (m : Int) < (n : Int) - (at_ : Int)
        · go_quiet (fail)
          go_wp2_with fail
          go_meet
          exact ⟨P - m, _, by rw [show ((P - m : Nat) : Int) = (P : Int) - m by omega], by omega, by omega, by omega, rfl⟩
        · go_quiet (fail)
          go_wp2_with fail
          go_meet
          exact ⟨n - at_, _, by rw [show ((n - at_ : Nat) : Int) = (n : Int) - at_ by omega], by omega, by omega, by omega, rfl⟩
      case rest =>
        obtain ⟨k, nq, rfl, hk1, hk2, hk3, hwc⟩ := hcut
        have hown3 := own_drewN hown2 nq
        have hb3 := below_drewN hbb nq
        have hc3 : (w2.drewN nq).heap[w.heap.size]? = _ := hc2
        rw [← hwc] at hown3 hb3 hc3
        have fc3 := blk_cell hc3
        have hz3 := blk_lt hc3
        clear hwc hc2 fc2 hz2 hbb hown2 hM
        rcases L with _ | ⟨⟨o', a', k', i'⟩, r⟩
        · obtain rfl : q = 0 := HQ.out
          go_wp2_with fail
          go_quiet (fail)
          obtain ⟨wf, hwf⟩ : ∃ v, v = World.drewN wc nq := ⟨_, rfl⟩
          have hown4 := own_drewN hown3 nq
          have hb4 := below_drewN hb3 nq
          have hc4 : (wc.drewN nq).heap[w.heap.size]? = _ := hc3
          rw [← hwf] at hown4 hb4 hc4 ⊢
          have hz4 := blk_lt hc4
          clear hwf hc3 fc3 hz3 hb3 hown3
          go_wp2_with (at_builtin; go_loud (refine wpList_append_new wf _ _ rfl (.tmp 99) (.tmp 105) 28 rfl (w.heap.size + 1) 35 i0 _ 4 32 Try.underlying28 hi0 hz0 hz1 hz2 rfl (by decide) (.slice A 0 c') 0 _ rfl hown4 1 rfl rfl (by intro u hu; simp at hu; rcases hu with rfl | rfl | rfl | rfl <;> rfl) (by simp only [maxLen]; omega) (by omega) (by omega) ?_; intro A1 c1' wd hown5 hg5 hbd _))
          go_roundg (n - (at_ + k))
          case measure => have := HK.out; omega
          case rel =>
            have hst := HSTEP.out at_ k hk1 (by rw [HX.out.2.2]; exact hk2)
            rw [HL.out, HX.out.1, HX.out.2.1] at hst
            have hps : pushE (([] : List Pc)) x y k at_ = (x, y, k, at_) :: ([] : List Pc) := rfl
            rw [hps] at hst
            exact ⟨at_ + k, 0 + 1, _, A1, c1', by omega, by go_num, by go_num, Lib.hid rfl, Lib.hid hst, by omega, hown5, hb4.trans (hbd.mono (by omega)), (hbd.block _ (by omega)).trans hc4⟩
        · obtain ⟨g, rfl, hgb, hgl, g0, g1, g2, g3⟩ := own_last hown3
          have hq := HQ.out
          obtain ⟨qr, hqr⟩ : ∃ qr, r.length = qr := ⟨_, rfl⟩
          have hgd := HG.out at_
          rw [HL.out] at hgd
          obtain ⟨hg1, hg2, hg3, -, -, -⟩ := hgd
          rw [hqr] at g0 g1 g2 g3
          obtain rfl : q = qr + 1 := by rw [hq, List.length_cons, hqr]
          have HQR := Lib.hid hqr
          clear hq hqr
          by_cases he1 : o' = x
          · by_cases he2 : a' + k' = y
            · have he3 : ((o' : Int) == (x : Int)) = true := by simp [he1]
              have he4 : ((a' : Int) + (k' : Int) == (y : Int)) = true := by simp; omega
              have HE := Lib.hid (And.intro he1 he2)
              clear he1 he2
              go_wp2_with fail
              go_quiet (fail)
              obtain ⟨wf, hwf⟩ : ∃ v, v = World.drewN wc nq := ⟨_, rfl⟩
              have hown4 := own_drewN hown3 nq
              have hb4 := below_drewN hb3 nq
              have hc4 : (wc.drewN nq).heap[w.heap.size]? = _ := hc3
              rw [← hwf] at hown4 hb4 hc4 ⊢
              have hz4 := blk_lt hc4
              clear hwf hc3 fc3 hz3 hb3 hown3 g0 g1 g2 g3
              obtain ⟨g', e', -, hgl', g0, g1, g2, g3⟩ := own_last hown4
              cases e'
              rw [HQR.out] at g0 g1 g2 g3
              go_wp2_with fail
              go_roundg (n - (at_ + k))
              case measure => have := HK.out; omega
              case rel =>
                have hst := HSTEP.out at_ k hk1 (by rw [HX.out.2.2]; exact hk2)
                rw [HL.out, HX.out.1, HX.out.2.1, pushE_yes HE.out] at hst
                have hset := (own_set hown4 (qr * 4 + 2) (.int .i64 ((k' + k : Nat) : Int))).1
                rw [← HQR.out, pcs_set, HQR.out] at hset
                refine ⟨at_ + k, qr + 1, _, _, _, by omega, by go_num, by go_num, Lib.hid (by rw [List.length_cons, HQR.out]), Lib.hid hst, by omega, ?_, ?_, ?_⟩
                · have e9 : ((k' + k : Nat) : Int) = (k' : Int) + k := by omega
                  rw [e9] at hset
                  exact hset
                · exact hb4.setCell (by simp <;> omega) _
                · exact blk_far hc4 (by simp <;> omega) _
            · have he3 : ((o' : Int) == (x : Int)) = true := by simp [he1]
              have he4 : ((a' : Int) + (k' : Int) == (y : Int)) = false := by simp; omega
              have HE := Lib.hid he2
              clear he1 he2
              go_wp2_with fail
              go_quiet (fail)
              obtain ⟨wf, hwf⟩ : ∃ v, v = World.drewN wc nq := ⟨_, rfl⟩
              have hown4 := own_drewN hown3 nq
              have hb4 := below_drewN hb3 nq
              have hc4 : (wc.drewN nq).heap[w.heap.size]? = _ := hc3
              rw [← hwf] at hown4 hb4 hc4 ⊢
              have hz4 := blk_lt hc4
              clear hwf hc3 fc3 hz3 hb3 hown3 g0 g1 g2 g3
              go_wp2_with (at_builtin; go_loud (refine wpList_append_new wf _ _ rfl (.tmp 99) (.tmp 105) 28 rfl (w.heap.size + 1) 35 i0 _ 4 32 Try.underlying28 hi0 hz0 hz1 hz2 rfl (by decide) (.slice (some ⟨g, 0, none⟩) (qr + 1) c') (qr + 1) _ rfl hown4 1 rfl rfl (by intro u hu; simp at hu; rcases hu with rfl | rfl | rfl | rfl <;> rfl) (by simp only [maxLen]; omega) (by omega) (by omega) ?_; intro A1 c1' wd hown5 hg5 hbd _))
              go_roundg (n - (at_ + k))
              case measure => have := HK.out; omega
              case rel =>
                have hst := HSTEP.out at_ k hk1 (by rw [HX.out.2.2]; exact hk2)
                rw [HL.out, HX.out.1, HX.out.2.1] at hst
                have hps : pushE (((o', a', k', i') :: r)) x y k at_ = (x, y, k, at_) :: ((o', a', k', i') :: r) := pushE_no fun h => HE.out h.2
                rw [hps] at hst
                exact ⟨at_ + k, (qr + 1) + 1, _, A1, c1', by omega, by go_num, by go_num, Lib.hid (by rw [List.length_cons, List.length_cons, HQR.out]), Lib.hid hst, by omega, hown5, hb4.trans (hbd.mono (by omega)), (hbd.block _ (by omega)).trans hc4⟩
          · have he3 : ((o' : Int) == (x : Int)) = false := by simp; omega
            have HE := Lib.hid he1
            clear he1
            go_wp2_with fail
            go_quiet (fail)
            obtain ⟨wf, hwf⟩ : ∃ v, v = World.drewN wc nq := ⟨_, rfl⟩
            have hown4 := own_drewN hown3 nq
            have hb4 := below_drewN hb3 nq
            have hc4 : (wc.drewN nq).heap[w.heap.size]? = _ := hc3
            rw [← hwf] at hown4 hb4 hc4 ⊢
            have hz4 := blk_lt hc4
            clear hwf hc3 fc3 hz3 hb3 hown3 g0 g1 g2 g3
            go_wp2_with (at_builtin; go_loud (refine wpList_append_new wf _ _ rfl (.tmp 99) (.tmp 105) 28 rfl (w.heap.size + 1) 35 i0 _ 4 32 Try.underlying28 hi0 hz0 hz1 hz2 rfl (by decide) (.slice (some ⟨g, 0, none⟩) (qr + 1) c') (qr + 1) _ rfl hown4 1 rfl rfl (by intro u hu; simp at hu; rcases hu with rfl | rfl | rfl | rfl <;> rfl) (by simp only [maxLen]; omega) (by omega) (by omega) ?_; intro A1 c1' wd hown5 hg5 hbd _))
            go_roundg (n - (at_ + k))
            case measure => have := HK.out; omega
            case rel =>
              have hst := HSTEP.out at_ k hk1 (by rw [HX.out.2.2]; exact hk2)
              rw [HL.out, HX.out.1, HX.out.2.1] at hst
              have hps : pushE (((o', a', k', i') :: r)) x y k at_ = (x, y, k, at_) :: ((o', a', k', i') :: r) := pushE_no fun h => HE.out h.1
              rw [hps] at hst
              exact ⟨at_ + k, (qr + 1) + 1, _, A1, c1', by omega, by go_num, by go_num, Lib.hid (by rw [List.length_cons, List.length_cons, HQR.out]), Lib.hid hst, by omega, hown5, hb4.trans (hbd.mono (by omega)), (hbd.block _ (by omega)).trans hc4⟩
    · obtain rfl : at_ = n := by omega
      have HLQ := Lib.hid (show q = (mapR P Q C off at_).length by rw [HL.out]; exact HQ.out)
      go_wp2_with fail
      go_ret
      refine ⟨A, c', ?_, ?_, hb⟩
      · rw [← HLQ.out]; rfl
      · rw [← HLQ.out, HL.out]; exact own_more hown (by omega)
end Go.Proofs.Ytjbfkpajplmmgaa
