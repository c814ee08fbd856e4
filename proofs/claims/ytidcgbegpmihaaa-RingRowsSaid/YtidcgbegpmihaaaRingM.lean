/- The law RingHolds: the walk. -/
import Derived.Test.YtidcgbegpmihaaaRingL
namespace Go.Proofs.Ytidcgbegpmihaaa
open Go.RowKit
theorem info3 : (Try.prog.info? 3).map (fun i => (i.zero, i.size, i.bytes)) = some (some (.int .i64 0), 1, 8) := by kernel_rfl

def szOf (x : Int) : Int := 1 + (bits .and .i64 x 255).tmod 90
theorem szOf_y (x : Int) : ∃ y, (bits .and .i64 x 255).tmod 90 = y ∧ 0 ≤ y ∧ y ≤ 89 := by
  have h : bits .and .i64 x 255 = x % 256 := i64_mask 8 (by decide) x 255 (by decide)
  refine ⟨_, rfl, ?_⟩
  rw [h, Int.tmod_eq_emod_of_nonneg (by omega)]
  omega
theorem szOf_bd (x : Int) : 1 ≤ szOf x ∧ szOf x ≤ 90 := by
  obtain ⟨y, h, h1, h2⟩ := szOf_y x
  unfold szOf
  rw [h]
  omega

set_option maxRecDepth 20000 in
set_option maxHeartbeats 4000000 in
theorem holds_law (a b c at_ : Int) (A : Option Addr) (n cap : Nat) (l : List Int) (w : World) (h : Reads w w.heap.size 1 A n cap (cells .i64 l)) :
    Calls Try.prog 4 #[.int .i64 a, .int .i64 b, .int .i64 c, .int .i64 at_, .slice A n cap] w fun e w' => e = .returned (.bool true) ∧ Below w.heap.size w w' := by
  have hbig := h.big
  by_cases h200 : 200 < n
  · go_enter Try.func4, Try.ntmps4
    go_wp2_with fail
    refine (known_any _).mono ?_
    rintro e w1 ⟨rfl, hb1⟩
    go_wp2_with fail
    go_ret
    exact ⟨rfl, hb1⟩
  have hn200 : n ≤ 200 := by omega
  obtain ⟨i0, hi0, hz0, hz1, hz2⟩ := info_parts info3
  obtain ⟨P, hP⟩ : ∃ P : Nat, 1 + a % 4 = (P : Int) := ⟨(1 + a % 4).toNat, by omega⟩
  obtain ⟨S, hS⟩ : ∃ S : Nat, 4 + b % 256 % 5 = (S : Int) := ⟨(4 + b % 256 % 5).toNat, by omega⟩
  obtain ⟨sz, hZ⟩ : ∃ sz : Int, 512 + c % 65536 % 3585 = sz := ⟨_, rfl⟩
  have p1 : 1 ≤ P ∧ P ≤ 4 := by omega
  have s1 : 4 ≤ S ∧ S ≤ 8 := by omega
  have z1 : 512 ≤ sz ∧ sz ≤ 4096 := by omega
  have hr : rightR P S sz = true := rightR_mk (by omega)
  have Hd : bits .and .i64 at_ 1048575 = at_ % 1048576 := i64_mask 20 (by decide) at_ 1048575 (by decide)
  obtain ⟨t0, ht⟩ : ∃ t0 : Nat, at_ % 1048576 = (t0 : Int) := ⟨(at_ % 1048576).toNat, by omega⟩
  have t9 : t0 < 1048576 := by omega
  rw [ht] at Hd
  clear ht
  have hsh := shape_any a b c w
  rw [hP, hS, hZ] at hsh
  clear hP hS hZ
  have HR := Lib.hid hr
  have hlen := h.length
  have HL := Lib.hid hlen
  clear hr hlen
  go_enter Try.func4, Try.ntmps4
  go_wp2_with fail
  refine hsh.mono ?_
  rintro e w1 ⟨rfl, hb1⟩
  clear hsh
  have h1 := h.next hb1
  go_wp2_with fail
  go_loopg [12, 13] n (fun gk v i wr => ∃ (k : Nat) (A' : Option Addr) (c' : Nat), k + gk = n ∧ i = .int .i64 (k : Nat) ∧ v = .slice A' k c' ∧ wr.ownsRow (w1.heap.size + 1) 3 1 (.slice A' k c') k (cells .i64 ((l.take k).map szOf)) ∧ Below w1.heap.size w1 wr ∧ wr.heap[w1.heap.size]? = some (.cells #[.int .i64 P, .int .i64 S, .int .i64 sz] 23 (0, 0)))
  case atStart => exact ⟨0, none, 0, by omega, rfl, rfl, World.ownsRow_nil _ _ _ _, (Below.refl _ _).alloc (Nat.le_refl _) _, blk_new rfl⟩
  case round =>
    obtain ⟨k, A', c', hk, rfl, rfl, hown, hb, hbx⟩ := hrel
    have HK := Lib.hid hk
    have hkn : k ≤ n := by omega
    clear hk
    by_cases hlt : k < n
    · obtain ⟨bb, o, x, rfl, hbb, hx, hc⟩ := (h1.below hb).at_ hlt
      have Hx := Lib.hid hx
      clear hx
      obtain ⟨y, hy, y1, y2⟩ := szOf_y x
      have hlw := blk_lt hbx
      go_wp2_with (at_builtin; go_loud (refine wpList_append_new wr _ _ rfl (.tmp 36) (.tmp 44) 37 rfl (w1.heap.size + 1) 3 i0 _ 1 8 Try.underlying37 hi0 hz0 hz1 hz2 rfl (by decide) (.slice A' k c') k _ rfl hown 1 rfl rfl (by intro u hu; simp at hu; subst hu; rfl) (by simp only [maxLen]; omega) (by omega) (by omega) ?_; intro A1 c1 w2 hown1 hg1 hb2 hob; clear hob hg1))
      go_roundg (n - (k + 1))
      case measure => have := HK.out; omega
      case rel =>
        refine ⟨k + 1, A1, c1, by omega, by go_num, rfl, ?_, hb.trans (hb2.mono (by omega)), (hb2.block _ (by omega)).trans hbx⟩
        rw [take_snoc Hx.out, List.map_append, cells_append]
        have : szOf x = 1 + y := by unfold szOf; rw [hy]
        simp only [List.map_cons, List.map_nil, this]
        exact hown1
    · obtain rfl : k = n := by omega
      clear HK hkn hlt
      have hll := HL.out
      rw [List.take_of_length_le (by omega)] at hown
      obtain ⟨ls, hls⟩ : ∃ ls : List Int, ls = l.map szOf := ⟨_, rfl⟩
      have hlb : ∀ x ∈ ls, 1 ≤ x ∧ x ≤ 90 := by
        subst hls
        intro x hx
        obtain ⟨z, _, rfl⟩ := List.mem_map.1 hx
        exact szOf_bd z
      have hlk : ls.length = k := by rw [hls, List.length_map]; exact hll
      rw [← hls] at hown
      clear hls hll h1 h HL
      have hsz := rightR_yes HR.out
      obtain ⟨s', v0, v1, v2, v3, ps, cc, hrun, -, -⟩ := runM_total HR.out ls 0 0 0 0 0 ((t0 : Int) + 1) 0 (by unfold GoodF; omega) (by omega) (by omega) (by omega) hlb
      have hsets : setsM P S sz t0 ls = ps := by
        unfold setsM
        rw [if_pos (by omega)]
        have : runM P S sz zF ((t0 : Int) + 1) ls = _ := hrun
        rw [this]
      have hpl : ps.length = k := by rw [(runM_length hrun).1, hlk]
      have fx := blk_cell hbx
      have HRun := Lib.hid hrun
      have HLK := Lib.hid hlk
      have HPL := Lib.hid hpl
      have HS := Lib.hid hsets
      have HLB := Lib.hid hlb
      clear hrun hlk hpl hsets hlb
      have hlr : Reads wr wr.heap.size 1 A' k c' (cells .i64 ls) := Reads.of_own hown
      go_wp2_with fail
      refine (sets_any P S sz t0 A' k c' ls _ hlr (by omega) (by omega) (by omega)).mono ?_
      rintro e w2 ⟨A2, c2, q, rfl, hpo, hb2⟩
      rw [HS.out] at hpo
      have hq : q = k := by
        have e1 := own_len hpo
        rw [pcells_length, HPL.out] at e1
        omega
      subst hq
      have hlr2 := hlr.next hb2
      have hbx2 := (hb2.block _ (blk_lt hbx)).trans hbx
      have hw2 : Below w1.heap.size w1 w2 := hb.trans (hb2.mono hb.size)
      have hlt2 := blk_lt hbx2
      have fx2 := blk_cell hbx2
      clear fx hbx hb hb2 hlr hown HS
      go_wp2_with (at_make; go_loud (refine wpList_make_one _ rfl (.tmp 56) (.tmp 56) 37 rfl w2.heap.size 3 i0 _ 8 Try.underlying37 hi0 hz0 hz1 hz2 rfl .i64 .i64 _ _ P rfl rfl rfl rfl (by omega) (by simp only [maxLen]; omega) (Nat.le_refl _) ?_; intro A3 c3 w3 hown3 hg3 hb3 hob; clear hob hg3))
      rw [cells_replicate, ← uL_zero p1.2] at hown3
      go_loopg [15, 16, 17] q (fun gk u set i wr => ∃ (k : Nat) (s u0 u1 u2 u3 : Int) (pk : List (Int × Int)) (cn : Nat) (A' : Option Addr) (c' : Nat), k + gk = q ∧ i = .int .i64 (k : Nat) ∧ set = .int .i64 s ∧ u = .slice A' P c' ∧ wr.ownsRow w2.heap.size 3 1 (.slice A' P c') P (cells .i64 (uL P u0 u1 u2 u3)) ∧ Below w2.heap.size w2 wr ∧ Hid (runM P S sz zF ((t0 : Int) + 1) (ls.take k) = some ((s, u0, u1, u2, u3), pk, cn)) ∧ Hid (GoodF sz s u0 u1 u2 u3 k))
      case atStart => exact ⟨0, 0, 0, 0, 0, 0, [], 0, A3, c3, by omega, rfl, rfl, rfl, hown3, hb3, Lib.hid rfl, Lib.hid (by unfold GoodF; omega)⟩
      case round =>
        clear hown3 hb3
        obtain ⟨k, s, u0, u1, u2, u3, pk0, cn, A4, c4, hk, rfl, rfl, rfl, hown, hb, hrun, hgood⟩ := hrel
        have HK := Lib.hid hk
        have hkq : k ≤ q := by omega
        clear hk
        by_cases hlt : k < q
        · obtain ⟨bl, ol, x, rfl, hbl, hx, hcl⟩ := (hlr2.below hb).at_ hlt
          have hxb := HLB.out x (List.mem_of_getElem? hx)
          have HX := Lib.hid hx
          have hbl2 : bl < wr.heap.size := Nat.lt_of_lt_of_le hbl hb.size
          have hpz : (P : Int) ≠ 0 := by omega
          have m0 := Int.emod_nonneg ((t0 : Int) + 1 + k) hpz
          have m1 := Int.emod_lt_of_pos ((t0 : Int) + 1 + k) (by omega : (0 : Int) < P)
          obtain ⟨o, ho⟩ : ∃ o : Nat, ((t0 : Int) + 1 + k) % P = o := ⟨(((t0 : Int) + 1 + k) % P).toNat, by omega⟩
          have ho4 : o < P := by omega
          have HTm : ((t0 : Int) + 1 + k).tmod P = (o : Int) := by rw [Int.tmod_eq_emod_of_nonneg (by omega)]; exact ho
          have two := put_two HR.out hgood.out (by omega : k ≤ 1000) (q := (t0 : Int) + 1 + k) (by omega) (by omega) hxb.1 hxb.2
          rw [ho, Int.add_comm 22 x] at two
          have hgf := hgood.out
          have hs : 0 ≤ s ∧ s ≤ k := ⟨hgf.1, hgf.2.1⟩
          have hpkb : 0 ≤ pk u0 u1 u2 u3 o ∧ pk u0 u1 u2 u3 o ≤ sz := by
            unfold GoodF at hgf
            unfold pk
            (repeat' split) <;> omega
          have huget := uL_get p1.2 ho4 u0 u1 u2 u3
          have key : ∀ (S' : Int) (g' : Fil) (c' : Nat), runM P S sz zF ((t0 : Int) + 1) (ls.take (k + 1)) = some (g', pk0 ++ [(S', (o : Int))], c') → ps[k]? = some (S', (o : Int)) := by
            intro S' g' c' hstep
            obtain ⟨g2, c2, e2⟩ := runM_take (k + 1) HRun.out
            have e3 : runM P S sz zF ((t0 : Int) + 1) (ls.take (k + 1)) = some (g2, ps.take (k + 1), c2) := e2
            rw [hstep] at e3
            simp only [Option.some.injEq, Prod.mk.injEq] at e3
            have hl0 : pk0.length = k := (runM_length hrun.out).1.trans (by rw [List.length_take]; have := HLK.out; omega)
            have h4 : (ps.take (k + 1))[k]? = some (S', (o : Int)) := by rw [← e3.2.1, List.getElem?_append_right (by omega)]; simp [hl0]
            rwa [List.getElem?_take_of_lt (by omega)] at h4
          have hpo2 := own_below hpo hb (Nat.le_refl _)
          have fb := blk_cell ((hb.block _ hlt2).trans hbx2)
          have hlw : w1.heap.size < wr.heap.size := Nat.lt_of_lt_of_le hlt2 hb.size
          obtain ⟨v, hv⟩ : ∃ v, v = pk u0 u1 u2 u3 o := ⟨_, rfl⟩
          rw [← hv] at huget hpkb
          obtain ⟨gu, rfl, hgb, hgl, hcu, hfu⟩ := own_at hown (cells_get huget)
          rcases two with ⟨h1, h2⟩ | ⟨h1, h2⟩
          · have hstep := runM_step HX.out hrun.out h2
            obtain ⟨b0, b1, b2, b3, ea, es, -⟩ := uL_set p1.2 ho4 s u0 u1 u2 u3 (x + 22)
            obtain ⟨y0, y1, y2, y3, eb, hg2⟩ := good_fit hgf (by omega : 0 ≤ x + 22) h1
            rw [ea] at eb hstep
            simp only [Prod.mk.injEq] at eb
            obtain ⟨-, rfl, rfl, rfl, rfl⟩ := eb
            have hpk := key _ _ _ hstep
            obtain ⟨q0, q1⟩ := pcells_get hpk
            obtain ⟨gp, rfl, hpb, hpl, hc0, -⟩ := own_at hpo2 q0
            obtain ⟨gp', eg, -, -, hc1, -⟩ := own_at hpo2 q1
            cases eg
            rw [← hv] at h1 es
            have HST := Lib.hid hstep
            have HES := Lib.hid es
            have HG2 := Lib.hid hg2
            have n1 : ¬ s = s + 1 := by omega
            have n2 : decide (s = s + 1) = false := dec_no n1
            have n3 : ¬ sz < v + (x + 22) := by omega
            have n4 : decide (sz < v + (x + 22)) = false := dec_no n3
            have hsz2 := hb.size
            clear hstep es hg2 key hpk q0 q1 h2 ea ho m0 m1 hgf hpo hpo2 hrun hgood huget hx hv
            go_wp2_with fail
            go_quiet (fail)
            go_wp2_with fail
            go_quiet (fail)
            go_wp2_with fail
            go_roundg (q - (k + 1))
            case measure => have := HK.out; omega
            case rel =>
              refine ⟨k + 1, s, b0, b1, b2, b3, _, _, some ⟨gu, 0, none⟩, c4, by omega, by go_num, rfl, rfl, ?_, ?_, Lib.hid HST.out, Lib.hid HG2.out⟩
              · have e1 := (own_set hown o (.int .i64 (v + (x + 22)))).1
                rw [cells_set, HES.out] at e1
                exact own_below (K := wr.heap.size) e1 (by repeat (first | with_reducible exact Below.refl _ _ | with_reducible assumption | with_reducible refine Below.drew ?_ | with_reducible refine below_drewN ?_ _ | with_reducible refine Below.setCell ?_ (by first | omega | (simp <;> omega)) _ | with_reducible refine Below.alloc ?_ (by first | omega | (simp <;> omega)) _)) (by simp)
              · repeat (first | with_reducible exact Below.refl _ _ | with_reducible assumption | with_reducible refine Below.drew ?_ | with_reducible refine below_drewN ?_ _ | with_reducible refine Below.setCell ?_ (by first | omega | (simp <;> omega)) _ | with_reducible refine Below.alloc ?_ (by first | omega | (simp <;> omega)) _)
          · have hstep := runM_step HX.out hrun.out h2
            obtain ⟨b0, b1, b2, b3, ea, es, -⟩ := uL_set p1.2 ho4 (s + 1) 0 0 0 0 (x + 22)
            obtain ⟨y0, y1, y2, y3, eb, hg2⟩ := good_next (o := (o : Int)) hgf (by omega : 0 ≤ x + 22) (by omega)
            rw [ea] at eb hstep
            simp only [Prod.mk.injEq] at eb
            obtain ⟨-, rfl, rfl, rfl, rfl⟩ := eb
            have hpk := key _ _ _ hstep
            obtain ⟨q0, q1⟩ := pcells_get hpk
            obtain ⟨gp, rfl, hpb, hpl, hc0, -⟩ := own_at hpo2 q0
            obtain ⟨gp', eg, -, -, hc1, -⟩ := own_at hpo2 q1
            cases eg
            have hp0 : pk 0 0 0 0 o = 0 := by unfold pk; (repeat' split) <;> rfl
            have hz0 := uL_get p1.2 ho4 0 0 0 0
            rw [hp0] at es hz0
            rw [Int.zero_add] at es
            rw [← hv] at h1
            have HST := Lib.hid hstep
            have HES := Lib.hid es
            have HG2 := Lib.hid hg2
            have HZ := Lib.hid hz0
            have n1 : ¬ s + 1 = s := by omega
            have n2 : decide (s + 1 = s) = false := dec_no n1
            have n7 : (s + 1 == s) = false := by rw [beq_eq_false_iff_ne]; omega
            have n8 : (s + 1 != s) = true := by rw [bne, n7]; rfl
            have n3 : ¬ v + (x + 22) ≤ sz := by omega
            have n4 : decide (v + (x + 22) ≤ sz) = false := dec_no n3
            have n5 : ¬ sz < x + 22 := by omega
            have n6 : decide (sz < x + 22) = false := dec_no n5
            have hsz2 := hb.size
            have hbxr := (hb.block _ hlt2).trans hbx2
            clear hstep es hg2 key hpk q0 q1 h2 ea ho m0 m1 hgf hpo hpo2 hrun hgood huget hx hv hfu hz0 hp0
            go_wp2_with fail
            go_quiet (fail)
            go_wp2_with fail
            go_quiet (fail)
            go_wp2_with (at_make; go_loud (refine wpList_make_one _ rfl (.tmp 112) (.tmp 112) 37 rfl (wr.heap.size + 1) 3 i0 _ 8 Try.underlying37 hi0 hz0 hz1 hz2 rfl .i64 .i64 _ _ P rfl rfl rfl rfl (by omega) (by simp only [maxLen]; omega) (by simp) ?_; intro A5 c5 w5 hown5 hg5 hb5 hob; clear hob hg5; rw [cells_replicate, ← uL_zero p1.2] at hown5; have f5 := blk_cell ((hb5.block w1.heap.size (by omega)).trans ((blk_old hlw).trans hbxr)); have p5 := blk_cell ((hb5.block wr.heap.size (by omega)).trans (blk_new rfl)); obtain ⟨g5, rfl, hg5b, hg5l, c5u, f5u⟩ := own_at hown5 (cells_get HZ.out); have g6 : wr.heap.size ≠ g5 := Nat.ne_of_lt hg5b; have g7 : w1.heap.size ≠ g5 := Nat.ne_of_lt (Nat.lt_trans hlw hg5b); have s5 : wr.heap.size < w5.heap.size := Nat.lt_trans hg5b hg5l; have s6 : w1.heap.size < w5.heap.size := Nat.lt_trans hlw s5))
            go_quiet (fail)
            go_wp2_with fail
            go_roundg (q - (k + 1))
            case measure => have := HK.out; omega
            case rel =>
              refine ⟨k + 1, s + 1, b0, b1, b2, b3, _, _, some ⟨g5, 0, none⟩, c5, by omega, by go_num, rfl, rfl, ?_, ?_, Lib.hid HST.out, Lib.hid HG2.out⟩
              · have e1 := (own_set hown5 o (.int .i64 (x + 22))).1
                rw [cells_set, HES.out] at e1
                exact own_more (own_below (K := w5.heap.size) e1 (by repeat (first | with_reducible exact Below.refl _ _ | with_reducible assumption | with_reducible refine Below.drew ?_ | with_reducible refine below_drewN ?_ _ | with_reducible refine Below.setCell ?_ (by first | omega | (simp <;> omega)) _ | with_reducible refine Below.alloc ?_ (by first | omega | (simp <;> omega)) _)) (by simp)) (by omega)
              · have hb6 : Below w2.heap.size w2 w5 := Below.trans (B := w2.heap.size) (a := w2) (by repeat (first | with_reducible exact Below.refl _ _ | with_reducible assumption | with_reducible refine Below.drew ?_ | with_reducible refine below_drewN ?_ _ | with_reducible refine Below.setCell ?_ (by first | omega | (simp <;> omega)) _ | with_reducible refine Below.alloc ?_ (by first | omega | (simp <;> omega)) _)) (hb5.mono (by omega))
                repeat (first | with_reducible exact Below.refl _ _ | with_reducible assumption | with_reducible refine Below.drew ?_ | with_reducible refine below_drewN ?_ _ | with_reducible refine Below.setCell ?_ (by first | omega | (simp <;> omega)) _ | with_reducible refine Below.alloc ?_ (by first | omega | (simp <;> omega)) _)
        · obtain rfl : k = q := by omega
          go_wp2_with fail
          refine (known_any _).mono ?_
          rintro e w9 ⟨rfl, hb9⟩
          go_wp2_with fail
          go_ret
          have s2 := hb1.size
          have s3 := hw2.size
          have s4 := hb.size
          exact ⟨rfl, (hb1.trans ((hw2.trans (hb.mono (by omega))).mono s2)).trans (hb9.mono (by omega))⟩
end Go.Proofs.Ytidcgbegpmihaaa
