/- The law RingNeeds: the walk Its ending is printed by gen_needs.py.. -/
import Derived.Test.YtidcgbegpmihaaaRingO
import Derived.Test.YtidcgbegpmihaaaApp
import Derived.Deep.CutBlock
import Derived.Deep.RegionHeld3
import Derived.Deep.RegionWith
namespace Go.Proofs.Ytidcgbegpmihaaa
open Go.RowKit

theorem put_good {sp st sz s u0 u1 u2 u3 q n g0 g1 g2 g3 g4 p0 p1 : Int} {nx ok : Bool} {k : Nat} (hr : rightR sp st sz = true) (hf : GoodF sz s u0 u1 u2 u3 k) (hk : k ≤ 1000) (q1 : 1 ≤ q) (q2 : q ≤ 1099511627776) (n1 : 1 ≤ n) (n2 : n ≤ 90)
    (hM : putM sp st sz s u0 u1 u2 u3 q n = ((g0, g1, g2, g3, g4), (p0, p1), nx, ok)) : ok = true ∧ GoodF sz g0 g1 g2 g3 g4 (k + 1) := by
  have hsz := rightR_yes hr
  rcases put_two hr hf hk q1 q2 n1 n2 with ⟨h1, h2⟩ | ⟨h1, h2⟩
  · obtain ⟨v0, v1, v2, v3, e, g⟩ := good_fit hf (by omega) h1
    rw [h2, e] at hM
    simp only [Prod.mk.injEq] at hM
    obtain ⟨⟨rfl, rfl, rfl, rfl, rfl⟩, _, _, rfl⟩ := hM
    exact ⟨rfl, g⟩
  · obtain ⟨v0, v1, v2, v3, e, g⟩ := good_next (o := q % sp) hf (by omega : 0 ≤ 22 + n) (by omega)
    rw [h2, e] at hM
    simp only [Prod.mk.injEq] at hM
    obtain ⟨⟨rfl, rfl, rfl, rfl, rfl⟩, _, _, rfl⟩ := hM
    exact ⟨rfl, g⟩

set_option maxRecDepth 20000 in
set_option maxHeartbeats 4000000 in
theorem needs_law (a b c at_ : Int) (A1 A2 : Option Addr) (n1 cap1 n2 cap2 : Nat) (l1 l2 : List Int) (w : World) (h1 : Reads w w.heap.size 1 A1 n1 cap1 (cells .i64 l1)) (h2 : Reads w w.heap.size 1 A2 n2 cap2 (cells .i64 l2)) :
    Calls Try.prog 7 #[.int .i64 a, .int .i64 b, .int .i64 c, .int .i64 at_, .slice A1 n1 cap1, .slice A2 n2 cap2] w fun e w' => e = .returned (.bool true) ∧ Below w.heap.size w w' := by
  have hbig1 := h1.big
  have hbig2 := h2.big
  by_cases h80 : 80 < n1
  · have d1 : decide (80 < n1) = true := dec_yes h80
    go_enter Try.func7, Try.ntmps7
    go_wp2_with fail
    refine (known_any _).mono ?_
    rintro e w1 ⟨rfl, hb1⟩
    go_wp2_with fail
    go_ret
    exact ⟨rfl, hb1⟩
  by_cases h81 : 80 < n2
  · go_enter Try.func7, Try.ntmps7
    go_wp2_with fail
    refine (known_any _).mono ?_
    rintro e w1 ⟨rfl, hb1⟩
    go_wp2_with fail
    go_ret
    exact ⟨rfl, hb1⟩
  have hn1 : n1 ≤ 80 := by omega
  have hn2 : n2 ≤ 80 := by omega
  obtain ⟨i0, hi0, hz0, hz1, hz2⟩ := info_parts info3
  obtain ⟨P, hP⟩ : ∃ P : Nat, 1 + a % 4 = (P : Int) := ⟨(1 + a % 4).toNat, by omega⟩
  obtain ⟨S, hS⟩ : ∃ S : Nat, 4 + b % 256 % 5 = (S : Int) := ⟨(4 + b % 256 % 5).toNat, by omega⟩
  obtain ⟨sz, hZ⟩ : ∃ sz : Int, 512 + c % 65536 % 3585 = sz := ⟨_, rfl⟩
  have p1 : 1 ≤ P ∧ P ≤ 4 := by omega
  have s1 : 4 ≤ S ∧ S ≤ 8 := by omega
  have z1 : 512 ≤ sz ∧ sz ≤ 4096 := by omega
  have hr : rightR P S sz = true := rightR_mk (by omega)
  have Hd : bits .and .i64 at_ 1048575 = at_ % 1048576 := i64_mask 20 (by decide) at_ 1048575 (by decide)
  obtain ⟨y0, hy0⟩ : ∃ y0 : Int, at_ % 1048576 = y0 := ⟨_, rfl⟩
  obtain ⟨t, ht⟩ : ∃ t : Nat, 1 + y0 = (t : Int) := ⟨(1 + y0).toNat, by omega⟩
  have t9 : 1 ≤ t ∧ t ≤ 1048576 := by omega
  have y9 : 0 ≤ y0 ∧ y0 < 1048576 := by omega
  rw [hy0] at Hd
  clear hy0
  have hsh := shape_any a b c w
  rw [hP, hS, hZ] at hsh
  clear hP hS hZ
  have HR := Lib.hid hr
  obtain ⟨ls, hls⟩ : ∃ ls : List Int, ls = l1.map szOf := ⟨_, rfl⟩
  have hlx : ∀ (j : Nat) (x : Int), l1[j]? = some x → ls[j]? = some (szOf x) := fun j x hx => by rw [hls, List.getElem?_map, hx]; rfl
  have hlb : ∀ x ∈ ls, 1 ≤ x ∧ x ≤ 90 := by
    subst hls; intro x hx
    obtain ⟨z, _, rfl⟩ := List.mem_map.1 hx
    exact szOf_bd z
  have hlk : ls.length = n1 := by rw [hls, List.length_map]; exact h1.length
  obtain ⟨ms, hms⟩ : ∃ ms : List Int, ms = l2.map szOf := ⟨_, rfl⟩
  have hmx : ∀ (j : Nat) (x : Int), l2[j]? = some x → ms[j]? = some (szOf x) := fun j x hx => by rw [hms, List.getElem?_map, hx]; rfl
  have hmb : ∀ x ∈ ms, 1 ≤ x ∧ x ≤ 90 := by
    subst hms; intro x hx
    obtain ⟨z, _, rfl⟩ := List.mem_map.1 hx
    exact szOf_bd z
  have hmk : ms.length = n2 := by rw [hms, List.length_map]; exact h2.length
  have HLX := Lib.hid hlx
  have HLB := Lib.hid hlb
  have HLK := Lib.hid hlk
  have HMX := Lib.hid hmx
  have HMB := Lib.hid hmb
  have HMK := Lib.hid hmk
  clear hr hlx hlb hlk hmx hmb hmk hls hms
  go_enter Try.func7, Try.ntmps7
  go_wp2_with fail
  refine hsh.mono ?_
  rintro e w1 ⟨rfl, hb1⟩
  clear hsh
  have g1 := h1.next hb1
  have g2 := h2.next hb1
  clear h1 h2
  go_wp2_with fail
  clear Hd ht
  go_loopg [15, 17] n1 (fun gk v i wr => ∃ (k : Nat) (A' : Option Addr) (c' : Nat) (s u0 u1 u2 u3 : Int) (ps : List (Int × Int)) (cnt : Nat), k + gk = n1 ∧ i = .int .i64 (k : Nat) ∧ v = .slice A' k c' ∧ wr.ownsRow (w1.heap.size + 2) 3 1 (.slice A' k c') k (cells .i64 (ls.take k)) ∧ Below w1.heap.size w1 wr ∧ wr.heap[w1.heap.size]? = some (.cells #[.int .i64 P, .int .i64 S, .int .i64 sz] 23 (0, 0)) ∧ wr.heap[w1.heap.size + 1]? = some (.cells #[.int .i64 s, .int .i64 u0, .int .i64 u1, .int .i64 u2, .int .i64 u3] 26 (0, 0)) ∧ Hid (runM P S sz zF t (ls.take k) = some ((s, u0, u1, u2, u3), ps, cnt)) ∧ Hid (GoodF sz s u0 u1 u2 u3 k))
  case atStart =>
    refine ⟨0, none, 0, 0, 0, 0, 0, 0, [], 0, by omega, rfl, rfl, World.ownsRow_nil _ _ _ _, ((Below.refl _ _).alloc (Nat.le_refl _) _).alloc (by simp) _, (blk_old (by simp)).trans (blk_new rfl), blk_new (by simp), Lib.hid rfl, Lib.hid (by unfold GoodF; omega)⟩
  case round =>
    obtain ⟨k, A', c', s, u0, u1, u2, u3, ps, cnt, hk, rfl, rfl, hown, hb, hc0, hc1, HRun, HG⟩ := hrel
    have HK := Lib.hid hk
    have hkn : k ≤ n1 := by omega
    clear hk
    by_cases hlt : k < n1
    · obtain ⟨bb, o, x, rfl, hbb, hx, hc⟩ := (g1.below hb).at_ hlt
      have hxs := HLX.out k x hx
      have Hx := Lib.hid hxs
      have hxb := HLB.out _ (List.mem_of_getElem? hxs)
      clear hx hxs
      obtain ⟨y, hy, y1, y2⟩ := szOf_y x
      have hsy : szOf x = 1 + y := by unfold szOf; rw [hy]
      rw [hsy] at hxb Hx
      clear hsy
      have hlw := blk_lt hc1
      have hlw0 := blk_lt hc0
      go_wp2_with (at_builtin; go_loud (refine wpList_append_new wr _ _ rfl (.tmp 55) (.tmp 57) 37 rfl (w1.heap.size + 2) 3 i0 _ 1 8 Try.underlying37 hi0 hz0 hz1 hz2 rfl (by decide) (.slice A' k c') k _ rfl hown 1 rfl rfl (by intro u hu; simp at hu; subst hu; rfl) (by simp only [maxLen]; omega) (by omega) (by omega) ?_; intro A3 c3 w2 hown1 hg1 hb2 hob; clear hob hg1; have e0 := (hb2.block _ (by omega)).trans hc0; have e1 := (hb2.block _ (by omega)).trans hc1; have x0 := blk_cell e0; have x1 := blk_cell e1; have q1 := blk_lt e1; have q0 := blk_lt e0))
      refine (rput_any _ _ _ _ _ _ _ _ _ _ _).mono ?_
      rintro e w3 ⟨f0, f1, f2, f3, f4, q5, q6, nx, ok, rfl, hM, hb3⟩
      have hgd := put_good HR.out HG.out (by omega) (by omega) (by omega) hxb.1 hxb.2 hM
      obtain ⟨rfl, hg2⟩ := hgd
      have hstep := runM_step Hx.out HRun.out hM
      have HST := Lib.hid hstep
      have HG2 := Lib.hid hg2
      have k0 := (hb3.block _ (by omega)).trans e0
      have k1 := (hb3.block _ (by omega)).trans e1
      have hown3 := own_below hown1 hb3 (Nat.le_refl _)
      have hbw2 : Below w1.heap.size w1 w2 := hb.trans (hb2.mono (by omega))
      have hbx : Below w1.heap.size w1 w3 := hbw2.trans (hb3.mono hbw2.size)
      have hzw : w1.heap.size + 1 < w3.heap.size := blk_lt k1
      have hzw1 : w1.heap.size < w3.heap.size := by omega
      have hzw2 : w1.heap.size + 1 < w3.heap.size + 1 := by omega
      have fw1 := blk_cell k1
      have fz1 := blk_frozen k1
      clear hM hg2 hstep e0 e1 x0 x1 q0 q1 hb3 hown1 hb2 hown hb hc0 hc1 hc HG HRun hlw hlw0
      go_wp2_with fail
      go_roundg (n1 - (k + 1))
      case measure => have := HK.out; omega
      case rel =>
        refine ⟨k + 1, A3, c3, f0, f1, f2, f3, f4, _, _, by omega, by go_num, rfl, ?_, ?_, ?_, ?_, HST, HG2⟩
        · rw [take_snoc Hx.out, cells_append]
          exact own_below (K := w3.heap.size) (own_far (own_far (own_far (own_far (own_far hown3 (Nat.lt_succ_self (w1.heap.size + 1)) _) (Nat.lt_succ_self (w1.heap.size + 1)) _) (Nat.lt_succ_self (w1.heap.size + 1)) _) (Nat.lt_succ_self (w1.heap.size + 1)) _) (Nat.lt_succ_self (w1.heap.size + 1)) _) (by repeat (first | with_reducible exact Below.refl _ _ | with_reducible refine Below.alloc ?_ (by first | omega | (simp <;> omega)) _)) (by simp)
        · repeat (first | with_reducible exact hbx | with_reducible refine Below.drew ?_ | with_reducible refine Below.setCell ?_ (by first | omega | (simp <;> omega)) _ | with_reducible refine Below.alloc ?_ (by first | omega | (simp <;> omega)) _)
        · rw [blk_old (by simp <;> omega), blk_old (by simp <;> omega)]
          exact blk_far (blk_far (blk_far (blk_far (blk_far k0 (by simp) _) (by simp) _) (by simp) _) (by simp) _) (by simp) _
        · rw [blk_old (by simp <;> omega), blk_old (by simp <;> omega)]
          exact blk_set (blk_set (blk_set (blk_set (blk_set k1 0 _) 1 _) 2 _) 3 _) 4 _
    · obtain rfl : k = n1 := by omega
      have hll := HLK.out
      rw [List.take_of_length_le (by omega)] at hown
      have hrun := HRun.out
      rw [List.take_of_length_le (by omega)] at hrun
      have HRun2 := Lib.hid hrun
      clear HK hkn hlt hll hrun HRun
      obtain ⟨wm, hwm⟩ : ∃ v, v = wr := ⟨_, rfl⟩
      subst hwm
      go_wp2_with fail
      go_loopg [16, 22] n2 (fun gk v i wq => ∃ (j : Nat) (A'' : Option Addr) (c'' : Nat), j + gk = n2 ∧ i = .int .i64 (j : Nat) ∧ v = .slice A'' j c'' ∧ wq.ownsRow wm.heap.size 3 1 (.slice A'' j c'') j (cells .i64 (ms.take j)) ∧ Below wm.heap.size wm wq)
      case atStart => exact ⟨0, none, 0, by omega, rfl, rfl, World.ownsRow_nil _ _ _ _, Below.refl _ _⟩
      case round =>
        obtain ⟨j, A4, c4, hk, rfl, rfl, hown4, hb4⟩ := hrel
        have HK := Lib.hid hk
        have hkn : j ≤ n2 := by omega
        clear hk
        by_cases hlt : j < n2
        · obtain ⟨bb, o, x, rfl, hbb, hx, hc⟩ := ((g2.below hb).more hb.size |>.below hb4).at_ hlt
          have hxs := HMX.out j x hx
          have Hx := Lib.hid hxs
          clear hx hxs
          obtain ⟨y, hy, y1, y2⟩ := szOf_y x
          have hsy : szOf x = 1 + y := by unfold szOf; rw [hy]
          rw [hsy] at Hx
          clear hsy
          go_wp2_with (at_builtin; go_loud (refine wpList_append_new wr _ _ rfl (.tmp 77) (.tmp 85) 37 rfl _ 3 i0 _ 1 8 Try.underlying37 hi0 hz0 hz1 hz2 rfl (by decide) (.slice A4 j c4) j _ rfl hown4 1 rfl rfl (by intro u hu; simp at hu; subst hu; rfl) (by simp only [maxLen]; omega) (by omega) hb4.size ?_; intro A5 c5 w5 hown5 hg5 hb5 hob; clear hob hg5))
          go_roundg (n2 - (j + 1))
          case measure => have := HK.out; omega
          case rel =>
            refine ⟨j + 1, A5, c5, by omega, by go_num, rfl, ?_, hb4.trans hb5⟩
            rw [take_snoc Hx.out, cells_append]
            exact hown5
        · obtain rfl : j = n2 := by omega
          have hmm := HMK.out
          rw [List.take_of_length_le (by omega)] at hown4
          clear HK hkn hlt hmm
          have q0 := blk_lt hc0
          have q1 := blk_lt hc1
          have e0 := (hb4.block _ q0).trans hc0
          have e1 := (hb4.block _ q1).trans hc1
          have hownl := own_below hown hb4 (Nat.le_refl _)
          have rl : Reads wr wr.heap.size 1 A' k c' (cells .i64 ls) := Reads.of_own hownl
          have rm : Reads wr wr.heap.size 1 A4 j c4 (cells .i64 ms) := Reads.of_own hown4
          have hbw : Below w1.heap.size w1 wr := hb.trans (hb4.mono hb.size)
          obtain ⟨cz, hn1, hn2, hn3, hn4, hn5, hn6⟩ := needs_two HR.out (l := ls) (m := ms) (by have := HLK.out; omega) (by have := HMK.out; omega) HLB.out HMB.out t9.2 t9.1 HRun2.out
          have r0 : w1.heap.size < wr.heap.size := Nat.lt_of_lt_of_le q0 hb4.size
          have r1 : w1.heap.size + 1 < wr.heap.size := Nat.lt_of_lt_of_le q1 hb4.size
          have hkr : k = ls.length := HLK.out.symm
          rw [← hkr] at hn2
          have H4 := Lib.hid hn4
          clear hn4
          have HN1 := Lib.hid hn1
          have HN2 := Lib.hid hn2
          have HN3 := Lib.hid hn3
          have RL := Lib.hid rl
          have RM := Lib.hid rm
          have ks : ∀ W' : World, Below wr.heap.size wr W' → (W'.cell? ⟨w1.heap.size, 0, none⟩ = some (.int .i64 P) ∧ W'.cell? ⟨w1.heap.size, 1, none⟩ = some (.int .i64 S) ∧ W'.cell? ⟨w1.heap.size, 2, none⟩ = some (.int .i64 sz) ∧ W'.cell? ⟨w1.heap.size + 1, 0, none⟩ = some (.int .i64 s) ∧ W'.cell? ⟨w1.heap.size + 1, 1, none⟩ = some (.int .i64 u0) ∧ W'.cell? ⟨w1.heap.size + 1, 2, none⟩ = some (.int .i64 u1) ∧ W'.cell? ⟨w1.heap.size + 1, 3, none⟩ = some (.int .i64 u2) ∧ W'.cell? ⟨w1.heap.size + 1, 4, none⟩ = some (.int .i64 u3)) := fun W' hb => ⟨(hb.cell (p := ⟨w1.heap.size, 0, none⟩) r0).trans (blk_cell e0 0), (hb.cell (p := ⟨w1.heap.size, 1, none⟩) r0).trans (blk_cell e0 1), (hb.cell (p := ⟨w1.heap.size, 2, none⟩) r0).trans (blk_cell e0 2), (hb.cell (p := ⟨w1.heap.size + 1, 0, none⟩) r1).trans (blk_cell e1 0), (hb.cell (p := ⟨w1.heap.size + 1, 1, none⟩) r1).trans (blk_cell e1 1), (hb.cell (p := ⟨w1.heap.size + 1, 2, none⟩) r1).trans (blk_cell e1 2), (hb.cell (p := ⟨w1.heap.size + 1, 3, none⟩) r1).trans (blk_cell e1 3), (hb.cell (p := ⟨w1.heap.size + 1, 4, none⟩) r1).trans (blk_cell e1 4)⟩
          have KS := Lib.hid ks
          have E1 := Lib.hid e1
          have dw : IntKind.i64.wrap ((t : Int) + (k : Int)) = (t : Int) + (k : Int) := IntWalk.i64_in _ (by omega)
          clear hn1 hn2 hn3 hown hb hb4 hownl hown4 hc0 hc1 q0 q1 rl rm ks e0 e1 hkr
          go_upto_region 18 with fail
          go_cut [23, 24, 25] (fun s23 s24 s25 wc => s23 = .int .i64 (needM P S sz zF t ls) ∧ s24 = .int .i64 (needM P S sz (s, u0, u1, u2, u3) ((t : Int) + (k : Int)) ms) ∧ s25 = .int .i64 (needM P S sz zF t (ls ++ ms)) ∧ Below wr.heap.size wr wc)
          case first =>
            go_region_held3 (fun W' => W'.cell? ⟨w1.heap.size, 0, none⟩ = some (.int .i64 P) ∧ W'.cell? ⟨w1.heap.size, 1, none⟩ = some (.int .i64 S) ∧ W'.cell? ⟨w1.heap.size, 2, none⟩ = some (.int .i64 sz) ∧ W'.cell? ⟨w1.heap.size + 1, 0, none⟩ = some (.int .i64 s) ∧ W'.cell? ⟨w1.heap.size + 1, 1, none⟩ = some (.int .i64 u0) ∧ W'.cell? ⟨w1.heap.size + 1, 2, none⟩ = some (.int .i64 u1) ∧ W'.cell? ⟨w1.heap.size + 1, 3, none⟩ = some (.int .i64 u2) ∧ W'.cell? ⟨w1.heap.size + 1, 4, none⟩ = some (.int .i64 u3))
              (exact KS.out _ (by repeat (first | with_reducible exact Below.refl _ _ | with_reducible assumption | with_reducible refine Below.drew ?_ | with_reducible refine below_drewN ?_ _ | with_reducible refine Below.setCell ?_ (by first | omega | (simp <;> omega)) _ | with_reducible refine Below.alloc ?_ (by first | omega | (simp <;> omega)) _)))
              (first
                | (go_at_call_of 19 (Value.slice A' k c'); refine (need_any _ _ _ _ _ _ _ _ _ _ _ _ ls _ (RL.out.next (by repeat (first | with_reducible exact Below.refl _ _ | with_reducible assumption | with_reducible refine Below.drew ?_ | with_reducible refine below_drewN ?_ _ | with_reducible refine Below.setCell ?_ (by first | omega | (simp <;> omega)) _ | with_reducible refine Below.alloc ?_ (by first | omega | (simp <;> omega)) _))) (by omega) (by omega) (by omega)).mono ?_; rintro e wn ⟨rfl, hbn⟩; have hbN := below_next (v := wr) (by repeat (first | with_reducible exact Below.refl _ _ | with_reducible assumption | with_reducible refine Below.drew ?_ | with_reducible refine below_drewN ?_ _ | with_reducible refine Below.setCell ?_ (by first | omega | (simp <;> omega)) _ | with_reducible refine Below.alloc ?_ (by first | omega | (simp <;> omega)) _)) hbn; have hsN := hbN.size; try (have q1N := OwnE.below q1 (below_next (by repeat (first | with_reducible exact Below.refl _ _ | with_reducible assumption | with_reducible refine Below.drew ?_ | with_reducible refine below_drewN ?_ _ | with_reducible refine Below.setCell ?_ (by first | omega | (simp <;> omega)) _ | with_reducible refine Below.alloc ?_ (by first | omega | (simp <;> omega)) _)) hbn) (Nat.le_refl _); clear q1; have q1 := q1N; clear q1N); try (have q2N := OwnE.below q2 (below_next (by repeat (first | with_reducible exact Below.refl _ _ | with_reducible assumption | with_reducible refine Below.drew ?_ | with_reducible refine below_drewN ?_ _ | with_reducible refine Below.setCell ?_ (by first | omega | (simp <;> omega)) _ | with_reducible refine Below.alloc ?_ (by first | omega | (simp <;> omega)) _)) hbn) (Nat.le_refl _); clear q2; have q2 := q2N; clear q2N); clear hbn)
                | (go_at_call_of 19 (Value.slice A4 j c4); refine (need_any _ _ _ _ _ _ _ _ _ _ _ _ ms _ (RM.out.next (by repeat (first | with_reducible exact Below.refl _ _ | with_reducible assumption | with_reducible refine Below.drew ?_ | with_reducible refine below_drewN ?_ _ | with_reducible refine Below.setCell ?_ (by first | omega | (simp <;> omega)) _ | with_reducible refine Below.alloc ?_ (by first | omega | (simp <;> omega)) _))) (by omega) (by omega) (by omega)).mono ?_; rintro e wn ⟨rfl, hbn⟩; have hbN := below_next (v := wr) (by repeat (first | with_reducible exact Below.refl _ _ | with_reducible assumption | with_reducible refine Below.drew ?_ | with_reducible refine below_drewN ?_ _ | with_reducible refine Below.setCell ?_ (by first | omega | (simp <;> omega)) _ | with_reducible refine Below.alloc ?_ (by first | omega | (simp <;> omega)) _)) hbn; have hsN := hbN.size; try (have q1N := OwnE.below q1 (below_next (by repeat (first | with_reducible exact Below.refl _ _ | with_reducible assumption | with_reducible refine Below.drew ?_ | with_reducible refine below_drewN ?_ _ | with_reducible refine Below.setCell ?_ (by first | omega | (simp <;> omega)) _ | with_reducible refine Below.alloc ?_ (by first | omega | (simp <;> omega)) _)) hbn) (Nat.le_refl _); clear q1; have q1 := q1N; clear q1N); try (have q2N := OwnE.below q2 (below_next (by repeat (first | with_reducible exact Below.refl _ _ | with_reducible assumption | with_reducible refine Below.drew ?_ | with_reducible refine below_drewN ?_ _ | with_reducible refine Below.setCell ?_ (by first | omega | (simp <;> omega)) _ | with_reducible refine Below.alloc ?_ (by first | omega | (simp <;> omega)) _)) hbn) (Nat.le_refl _); clear q2; have q2 := q2N; clear q2N); clear hbn)
                | (refine step_append_0 rfl (.tmp 103) (.tmp 104) 37 rfl wr.heap.size 3 i0 _ 1 8 Try.underlying37 hi0 hz0 hz1 hz2 rfl (by decide) _ (by rfl) _ A' k c' (cells .i64 ls) (by rfl) (RL.out.next (by repeat (first | with_reducible exact Below.refl _ _ | with_reducible assumption | with_reducible refine Below.drew ?_ | with_reducible refine below_drewN ?_ _ | with_reducible refine Below.setCell ?_ (by first | omega | (simp <;> omega)) _ | with_reducible refine Below.alloc ?_ (by first | omega | (simp <;> omega)) _))) (cells_oneCell _ _) (by simp only [maxLen]; omega) (by omega) (by first | omega | (simp <;> omega)) ?_; intro A6 c6 w7 q1 hb7; have hbA := below_next (v := wr) (by repeat (first | with_reducible exact Below.refl _ _ | with_reducible assumption | with_reducible refine Below.drew ?_ | with_reducible refine below_drewN ?_ _ | with_reducible refine Below.setCell ?_ (by first | omega | (simp <;> omega)) _ | with_reducible refine Below.alloc ?_ (by first | omega | (simp <;> omega)) _)) hb7; have hsA := hbA.size; clear hb7)
                | (refine step_append_E rfl (.tmp 105) (.tmp 106) 37 rfl wr.heap.size 3 i0 _ 1 8 Try.underlying37 hi0 hz0 hz1 hz2 rfl (by decide) A6 k c6 (cells .i64 ls) (by rfl) (by first | exact q1 | exact q1.drew | exact q1.alloc _ | exact OwnE.drew (q1.alloc _) | exact (OwnE.drew q1).alloc _) _ A4 j c4 (cells .i64 ms) (by rfl) (RM.out.next (by repeat (first | with_reducible exact Below.refl _ _ | with_reducible assumption | with_reducible refine Below.drew ?_ | with_reducible refine below_drewN ?_ _ | with_reducible refine Below.setCell ?_ (by first | omega | (simp <;> omega)) _ | with_reducible refine Below.alloc ?_ (by first | omega | (simp <;> omega)) _))) (cells_oneCell _ _) (by simp only [maxLen]; omega) (by omega) (by first | omega | (simp <;> omega)) ?_; intro A7 c7 w8 q2 g8 hb8; have hbE := Below.trans (B := wr.heap.size) (a := wr) (by repeat (first | with_reducible exact Below.refl _ _ | with_reducible assumption | with_reducible refine Below.drew ?_ | with_reducible refine below_drewN ?_ _ | with_reducible refine Below.setCell ?_ (by first | omega | (simp <;> omega)) _ | with_reducible refine Below.alloc ?_ (by first | omega | (simp <;> omega)) _)) hb8; have hsE := hbE.size; clear hb8 g8 q1; rw [← cells_append] at q2)
                | (go_at_call_of 19 (Value.slice A7 (k + j) c7); refine (need_any _ _ _ _ _ _ _ _ _ _ _ _ (ls ++ ms) _ (by first | exact q2.reads | exact (OwnE.drew q2).reads | exact (q2.alloc _).reads | exact (OwnE.drew (q2.alloc _)).reads | exact ((OwnE.drew q2).alloc _).reads) (by omega) (by omega) (by omega)).mono ?_; rintro e wn ⟨rfl, hbn⟩; have hbN := below_next (v := wr) (by repeat (first | with_reducible exact Below.refl _ _ | with_reducible assumption | with_reducible refine Below.drew ?_ | with_reducible refine below_drewN ?_ _ | with_reducible refine Below.setCell ?_ (by first | omega | (simp <;> omega)) _ | with_reducible refine Below.alloc ?_ (by first | omega | (simp <;> omega)) _)) hbn; have hsN := hbN.size; try (have q1N := OwnE.below q1 (below_next (by repeat (first | with_reducible exact Below.refl _ _ | with_reducible assumption | with_reducible refine Below.drew ?_ | with_reducible refine below_drewN ?_ _ | with_reducible refine Below.setCell ?_ (by first | omega | (simp <;> omega)) _ | with_reducible refine Below.alloc ?_ (by first | omega | (simp <;> omega)) _)) hbn) (Nat.le_refl _); clear q1; have q1 := q1N; clear q1N); try (have q2N := OwnE.below q2 (below_next (by repeat (first | with_reducible exact Below.refl _ _ | with_reducible assumption | with_reducible refine Below.drew ?_ | with_reducible refine below_drewN ?_ _ | with_reducible refine Below.setCell ?_ (by first | omega | (simp <;> omega)) _ | with_reducible refine Below.alloc ?_ (by first | omega | (simp <;> omega)) _)) hbn) (Nat.le_refl _); clear q2; have q2 := q2N; clear q2N); clear hbn))
            all_goals (go_wp2_with fail; go_meet; exact ⟨rfl, rfl, rfl, (by repeat (first | with_reducible exact Below.refl _ _ | with_reducible assumption | with_reducible refine Below.drew ?_ | with_reducible refine below_drewN ?_ _ | with_reducible refine Below.setCell ?_ (by first | omega | (simp <;> omega)) _ | with_reducible refine Below.alloc ?_ (by first | omega | (simp <;> omega)) _))⟩)
          case rest =>
            obtain ⟨rfl, rfl, rfl, hbc⟩ := hcut
            have f0 := (hbc.cell (p := ⟨w1.heap.size + 1, 0, none⟩) r1).trans (blk_cell E1.out 0)
            rw [HN1.out, HN2.out, HN3.out]
            have hs := H4.out
            clear H4 KS E1
            rw [hs] at f0
            have dz : IntKind.i64.wrap ((cnt : Int) + (cz : Int)) = (cnt : Int) + (cz : Int) := IntWalk.i64_in _ (by omega)
            have b1 : (((cnt : Int) + (cz : Int)) == ((cnt : Int) + (cz : Int))) = true := by simp
            have b2 : ((cnt : Int) == (cnt : Int)) = true := by simp
            have b3 : decide ((0 : Int) ≤ (cnt : Int)) = true := dec_yes (by omega)
            have b4 : decide ((0 : Int) ≤ (cz : Int)) = true := dec_yes (by omega)
            clear hs
            go_wp2_with fail
            refine (known_any _).mono ?_
            rintro e w9 ⟨rfl, hb9⟩
            go_wp2_with fail
            go_ret
            exact ⟨rfl, hb1.trans ((hbw.trans ((hbc.trans (hb9.mono hbc.size)).mono hbw.size)).mono hb1.size)⟩
end Go.Proofs.Ytidcgbegpmihaaa
