/- The law PostPlays: the walk. Printed by gen_plays.py. -/
import Derived.Test.YtpgadahijhfphaaPostM
import Derived.Deep.CutBlock
import Derived.Deep.RegionHeld3
import Derived.BigQuiet
namespace Go.Proofs.Ytpgadahijhfphaa
open Go.RowKit

theorem reads_blk {w : World} {g : Nat} {x y : Value} (h : w.heap[g]? = some (.cells #[x, y] 33 (0, 0))) : Reads w w.heap.size 2 (some ⟨g, 0, none⟩) 1 1 [x, y] :=
  ⟨rfl, Nat.le_refl _, by simp [maxLen], fun h => by simp at h, fun _ => ⟨g, 0, rfl, blk_lt h, fun j u hu => by
    rw [Nat.zero_add, blk_cell h j]
    simpa using hu⟩⟩

theorem len_snoc {L : List Pcl} {m : Nat} (h : L.length = m) (x : Pcl) : (L ++ [x]).length = m + 1 := by simp [h]
theorem fr_set2 (w : World) (g : Nat) (u v : Value) : Fr (· = g) w ((w.setCell ⟨g, 0, none⟩ u).setCell ⟨g, 1, none⟩ v) :=
  ⟨rfl, rfl, rfl, by simp [World.setCell], fun k _ hn => (Below.heap_setCell _ ⟨g, 1, none⟩ v k hn).trans (Below.heap_setCell w ⟨g, 0, none⟩ u k hn)⟩
theorem took_frame {F : Nat → Prop} {wd w6 wa w7 : World} {o : Obj} (hb6 : Below wd.heap.size wd w6) (hwa : wa = w6.alloc o) (s2 : Fr F wa w7) (u v : Value) : Fr F wd ((w7.setCell ⟨w6.heap.size, 0, none⟩ u).setCell ⟨w6.heap.size, 1, none⟩ v) :=
  ((Fr.of_below (F := F) (hb6.alloc hb6.size o)).trans (hwa ▸ s2) (fun k h => .inl h)).trans (fr_set2 w7 w6.heap.size u v) (fun k e => .inr (by have e' : k = w6.heap.size := e; rw [e']; exact hb6.size))

set_option maxRecDepth 20000 in
set_option maxHeartbeats 8000000 in
theorem plays_law (A : Option Addr) (n c : Nat) (L0 : List Actc) (w : World) (h : ActsAt w w.heap.size A n c L0) :
    Calls Try.prog 3 #[.slice A n c] w fun e w' => e = .returned (.bool true) ∧ Below w.heap.size w w' := by
  have hbig := h.1.big
  have hfew := few_any A n c L0 w h
  obtain ⟨i0, hi0, hz0, hz1, hz2⟩ := info_parts info33
  cases hf : fewB L0
  · as_aux_lemma =>
     rw [hf] at hfew
     go_enter Try.func3, Try.ntmps3
     go_wp2_with fail
     refine hfew.mono ?_
     rintro e w1 ⟨rfl, rfl⟩
     clear hfew
     go_wp2_with fail
     refine (known_any _).mono ?_
     rintro e w2 ⟨rfl, hb2⟩
     go_wp2_with fail
     go_ret
     exact ⟨rfl, hb2⟩
  · rw [hf] at hfew
    obtain ⟨f1, f2⟩ := few_is hf
    rw [h.length] at f1
    have F2 := Lib.hid f2
    clear f2 hf
    go_enter Try.func3, Try.ntmps3
    go_wp2_with fail
    refine hfew.mono ?_
    rintro e w1 ⟨rfl, rfl⟩
    clear hfew
    go_wp2_with fail
    refine (new_any _).mono ?_
    rintro e w1 ⟨rfl, hw1⟩
    have hp := new_post w
    rw [hw1] at hp
    have hi : Play w w.heap.size [] none 0 w1 := ⟨_, hp, fun k hk => by rw [hk]; exact Nat.le_refl _, by rw [← hw1]; exact (Below.refl _ _).alloc (Nat.le_refl _) _, Reads.nil_ _ _ _, fun a ha => by cases ha⟩
    have HI := Lib.hid hi
    clear hw1 hp hi
    go_wp2_with fail
    go_loopg [4, 5] n (fun gk v i wr => ∃ (k m cr : Nat) (Ar : Option Addr) (L : List Pcl), k + gk = n ∧ i = .int .i64 (k : Nat) ∧ v = .slice Ar m cr ∧ Hid (L.length = m) ∧ m ≤ 40 ∧ Hid (Play w w.heap.size L Ar cr wr))
    case atStart => exact ⟨0, 0, 0, none, [], by omega, rfl, rfl, Lib.hid rfl, by omega, HI⟩
    case round =>
      obtain ⟨k, m, cr, Ar, L, hk, rfl, rfl, HM, hm, HI2⟩ := hrel
      have HK := Lib.hid hk
      have hkn : k ≤ n := by omega
      clear hk HI
      by_cases hlt : k < n
      · have hba : Below w.heap.size w wr := by obtain ⟨F, -, -, h, -⟩ := HI2.out; exact h
        have hact := h.below hba
        obtain ⟨ba, oa, a, t, i, A1, n1, c1, l, rfl, hbl, hx, y0, y1, y2, y3, hr⟩ := hact.at_ hlt
        have b0 : (0 : Int) ≤ (k : Int) := by omega
        have bk : (k : Int) < (n : Int) := by omega
        have HR0 := Lib.hid (h.2 _ (List.mem_of_getElem? hx))
        have HBA := Lib.hid hba
        have hlen1 : n1 ≤ 5000 := by
          have := F2.out _ (List.mem_of_getElem? hx)
          exact this
        clear hact hba hr hx
        go_upto_region 11 with fail
        obtain ⟨wq, hwq⟩ : ∃ v, v = wr.alloc (.cells #[.int .i64 a, .int .i64 t, .int .i64 i, .slice A1 n1 c1] 30) := ⟨_, rfl⟩
        rw [← hwq]
        have kq : wq.heap[wr.heap.size]? = some (.cells #[.int .i64 a, .int .i64 t, .int .i64 i, .slice A1 n1 c1] 30 (0, 0)) := by rw [hwq]; exact blk_new rfl
        have hbq : Below wr.heap.size wr wq := by rw [hwq]; exact (Below.refl _ _).alloc (Nat.le_refl _) _
        clear hwq y0 y1 y2 y3
        have q0 := blk_cell kq 0
        have q1 := blk_cell kq 1
        have q2 := blk_cell kq 2
        have q3 := blk_cell kq 3
        have g0 := blk_frozen kq 0
        have g1 := blk_frozen kq 1
        have KQ := Lib.hid kq
        clear kq
        go_cut [7] (fun s7 wc => ∃ th : Bool, s7 = .bool th ∧ Hid (th = decide (0 ≤ i ∧ i < (m : Int))) ∧ wc = wq)
        case first =>
          as_aux_lemma =>
           by_cases h0 : 0 ≤ i
           · by_cases h1 : i < (m : Int)
             · have d0 : decide (0 ≤ i) = true := dec_yes h0
               have d1 : decide (i < (m : Int)) = true := dec_yes h1
               go_wp2_with fail
               go_meet
               exact ⟨true, rfl, Lib.hid (dec_yes ⟨h0, h1⟩).symm, rfl⟩
             · have d0 : decide (0 ≤ i) = true := dec_yes h0
               have d1 : decide (i < (m : Int)) = false := dec_no h1
               go_wp2_with fail
               go_meet
               exact ⟨false, rfl, Lib.hid (dec_no (by omega)).symm, rfl⟩
           · have d0 : decide (0 ≤ i) = false := dec_no h0
             go_wp2_with fail
             go_meet
             exact ⟨false, rfl, Lib.hid (dec_no (by omega)).symm, rfl⟩
        case rest =>
          obtain ⟨th, rfl, HTH, hwc⟩ := hcut
          obtain rfl : wq = wc := hwc.symm
          go_upto_region 12 with fail
          go_cut [46] (fun s46 wc => ∃ bad : Bool, s46 = .bool bad ∧ Hid (bad = decide (a < 0 ∨ 3 < a)) ∧ wc = wq)
          case first =>
            as_aux_lemma =>
             by_cases h0 : a < 0
             · have d0 : decide (a < 0) = true := dec_yes h0
               go_wp2_with fail
               go_meet
               exact ⟨true, rfl, Lib.hid (dec_yes (by omega)).symm, rfl⟩
             · have d0 : decide (a < 0) = false := dec_no h0
               by_cases h3 : 3 < a
               · have d3 : decide (3 < a) = true := dec_yes h3
                 go_wp2_with fail
                 go_meet
                 exact ⟨true, rfl, Lib.hid (dec_yes (by omega)).symm, rfl⟩
               · have d3 : decide (3 < a) = false := dec_no h3
                 go_wp2_with fail
                 go_meet
                 exact ⟨false, rfl, Lib.hid (dec_no (by omega)).symm, rfl⟩
          case rest =>
          obtain ⟨bad, rfl, HBAD, hwc⟩ := hcut
          obtain rfl : wq = wc := hwc.symm
          go_upto_if 46 with fail
          go_cut [] (fun wc => ∃ (q : Nat) (t' : Int), q < 4 ∧ Hid (wc.heap[wr.heap.size]? = some (.cells #[.int .i64 (q : Nat), .int .i64 t', .int .i64 i, .slice A1 n1 c1] 30 (0, 0))) ∧ Below wr.heap.size wr wc)
          case first =>
            as_aux_lemma =>
             cases bad
             · have hb := of_decide_eq_false HBAD.out.symm
               obtain ⟨q, rfl⟩ : ∃ q : Nat, a = (q : Int) := ⟨a.toNat, by omega⟩
               go_wp2_with fail
               go_meet
               exact ⟨q, t, by omega, KQ, hbq⟩
             · go_wp2_with fail
               go_meet
               exact ⟨0, _, by omega, Lib.hid (blk_set (blk_set KQ.out 0 _) 1 _), (hbq.setCell (Nat.le_refl _) _).setCell (Nat.le_refl _) _⟩
          case rest =>
            obtain ⟨q, t', q4, KC, hbc⟩ := hcut
            obtain ⟨wd, rfl⟩ : ∃ v, v = wc := ⟨wc, rfl⟩
            clear q0 q1 q2 q3 g0 g1 KQ hbq HBAD
            have q0 := blk_cell KC.out 0
            have q1 := blk_cell KC.out 1
            have q2 := blk_cell KC.out 2
            have q3 := blk_cell KC.out 3
            go_upto_block 2 with fail
            go_cut [4] (fun s4 wx => ∃ (m' cr' : Nat) (Ar' : Option Addr) (L' : List Pcl), s4 = .slice Ar' m' cr' ∧ Hid (L'.length = m') ∧ m' ≤ 40 ∧ Hid (Play w w.heap.size L' Ar' cr' wx))
            case first =>
              obtain ⟨F, pr1, p2, pr3, pr4, p5⟩ := HI2.out
              have hFb : ¬ F wr.heap.size := fun h => by have := pr1.lt _ h; omega
              have p1 := pr1.below hbc
              have p3 : Below w.heap.size w wd := pr3.trans (hbc.mono pr3.size)
              have p4 := pr4.next hbc
              rw [HM.out] at p4
              have hblen := pr3.size
              have hblc := hbc.size
              have hblk := blk_lt KC.out
              have P5 := Lib.hid p5
              have P4 := Lib.hid p4
              have P1 := Lib.hid p1
              have P2 := Lib.hid p2
              clear pr1 pr3 pr4 p5 p4 p1 p2
              rcases (by omega : q = 0 ∨ q = 1 ∨ q = 2 ∨ q = 3) with rfl | rfl | rfl | rfl
              · skip
                go_upto_region 21 with fail
                go_cut [8] (fun s8 wx => ∃ yes : Bool, s8 = .bool yes ∧ Hid (yes = decide ((t' = 1 ∨ t' = 2) ∧ n1 ≤ 4096 ∧ m < 40)) ∧ wx = wd)
                case first =>
                  as_aux_lemma =>
                   by_cases e1 : t' = 1
                   · have b1 : (t' == 1) = true := by simpa using e1
                     by_cases h4 : n1 ≤ 4096
                     · have b4 : decide ((n1 : Int) ≤ 4096) = true := dec_yes (by omega)
                       by_cases h40 : m < 40
                       · have b40 : decide ((m : Int) < 40) = true := dec_yes (by omega)
                         go_wp2_with fail
                         go_meet
                         exact ⟨true, rfl, Lib.hid (dec_yes (by omega)).symm, rfl⟩
                       · have b40 : decide ((m : Int) < 40) = false := dec_no (by omega)
                         go_wp2_with fail
                         go_meet
                         exact ⟨false, rfl, Lib.hid (dec_no (by omega)).symm, rfl⟩
                     · have b4 : decide ((n1 : Int) ≤ 4096) = false := dec_no (by omega)
                       go_wp2_with fail
                       go_meet
                       exact ⟨false, rfl, Lib.hid (dec_no (by omega)).symm, rfl⟩
                   · have b1 : (t' == 1) = false := by simpa using e1
                     by_cases e2 : t' = 2
                     · have b2 : (t' == 2) = true := by simpa using e2
                       by_cases h4 : n1 ≤ 4096
                       · have b4 : decide ((n1 : Int) ≤ 4096) = true := dec_yes (by omega)
                         by_cases h40 : m < 40
                         · have b40 : decide ((m : Int) < 40) = true := dec_yes (by omega)
                           go_wp2_with fail
                           go_meet
                           exact ⟨true, rfl, Lib.hid (dec_yes (by omega)).symm, rfl⟩
                         · have b40 : decide ((m : Int) < 40) = false := dec_no (by omega)
                           go_wp2_with fail
                           go_meet
                           exact ⟨false, rfl, Lib.hid (dec_no (by omega)).symm, rfl⟩
                       · have b4 : decide ((n1 : Int) ≤ 4096) = false := dec_no (by omega)
                         go_wp2_with fail
                         go_meet
                         exact ⟨false, rfl, Lib.hid (dec_no (by omega)).symm, rfl⟩
                     · have b2 : (t' == 2) = false := by simpa using e2
                       go_wp2_with fail
                       go_meet
                       exact ⟨false, rfl, Lib.hid (dec_no (by omega)).symm, rfl⟩
                case rest =>
                  obtain ⟨yes, rfl, HY, hwc⟩ := hcut
                  obtain rfl : wd = wc := hwc.symm
                  cases yes
                  · as_aux_lemma =>
                     have hno := of_decide_eq_false HY.out.symm
                     have ht : Calls Try.prog 9 #[.pointer (some ⟨w.heap.size, 0, none⟩), .int .i64 t', .slice A1 n1 c1] wd fun e w' => e = .returned (.bool false) ∧ wd = w' := by
                       obtain ⟨R, c0, h1, -⟩ := P1.out
                       rw [HM.out] at h1
                       exact send_no _ n1 c1 m c0 A1 R _ wd h1 (by omega) (by omega) hm
                     have HV : Hid (Play w w.heap.size L Ar cr wd) := Lib.hid (HI2.out.below hbc)
                     clear hno
                     go_wp2_with fail
                     refine ht.mono ?_
                     rintro e w6 ⟨rfl, rfl⟩
                     clear ht
                     go_wp2_with fail
                     go_meet
                     exact ⟨m, cr, Ar, L, rfl, HM, hm, HV⟩
                  · as_aux_lemma =>
                     have hyes := of_decide_eq_true HY.out.symm
                     have ht := send_yes _ n1 c1 A1 t' l F L wd P1.out ((HR0.out.below p3).more p3.size) hyes.1 hyes.2.1 (by rw [HM.out]; exact hyes.2.2)
                     obtain ⟨ht1, ht2, ht3⟩ := hyes
                     have HT1 := Lib.hid ht1
                     clear ht1
                     go_wp2_with fail
                     refine ht.mono ?_
                     rintro e w6 ⟨rfl, A', c', F', s1, s2, s3⟩
                     have hb6 : Below w.heap.size w w6 := fr_below p3 s2 P2.out
                     have p46 := P4.out.fr_ s2 (fun a ha h0 hF => P5.out a ha (by rw [HM.out]; exact h0) hF)
                     have hF2 : ∀ k, F' k → w.heap.size ≤ k := fun k hk => (s3 k hk).elim (P2.out k) (fun h => Nat.le_trans p3.size h)
                     have k6 := (s2.block _ hblk hFb).trans KC.out
                     have hz6 := blk_lt k6
                     have hconv : ∀ W' : World, Below w6.heap.size w6 W' → (W'.cell? ⟨wr.heap.size, 1, none⟩ = some (.int .i64 t') ∧ W'.cell? ⟨wr.heap.size, 3, none⟩ = some (.slice A1 n1 c1) ∧ (convert 28 9 (.slice A1 n1 c1)).run Try.prog W' = .ok (.string (strOfNums l)) W') := fun W' hb => ⟨(hb.cell (p := ⟨wr.heap.size, 1, none⟩) hz6).trans (blk_cell k6 1), (hb.cell (p := ⟨wr.heap.size, 3, none⟩) hz6).trans (blk_cell k6 3), run_str (HR0.out.below (hb6.trans (hb.mono hb6.size)))⟩
                     have KS := Lib.hid hconv
                     have P46 := Lib.hid p46
                     have HPF := Lib.hid (And.intro s1 hF2)
                     clear hconv ht s1 s2 s3 p46 hF2 k6 q0 q1 q2 q3
                     go_upto_region 25 with fail
                     go_region_held3 (fun W' => W'.cell? ⟨wr.heap.size, 1, none⟩ = some (.int .i64 t') ∧ W'.cell? ⟨wr.heap.size, 3, none⟩ = some (.slice A1 n1 c1) ∧ (convert 28 9 (.slice A1 n1 c1)).run Try.prog W' = .ok (.string (strOfNums l)) W')
                       (exact KS.out _ (by repeat (first | with_reducible exact Below.refl _ _ | with_reducible assumption | with_reducible refine Below.drew ?_ | with_reducible refine below_drewN ?_ _ | with_reducible refine Below.setCell ?_ (by first | omega | (simp <;> omega)) _ | with_reducible refine Below.alloc ?_ (by first | omega | (simp <;> omega)) _)))
                       (first
                         | (refine step_append_0 rfl (.tmp 108) (.tmp 109) 27 rfl w6.heap.size 33 i0 _ 2 24 Try.underlying27 hi0 hz0 hz1 hz2 rfl (by decide) _ (by rfl) _ Ar m cr (rpc (L.map says)) (by rfl) (P46.out.next (by repeat (first | with_reducible exact Below.refl _ _ | with_reducible assumption | with_reducible refine Below.drew ?_ | with_reducible refine below_drewN ?_ _ | with_reducible refine Below.setCell ?_ (by first | omega | (simp <;> omega)) _ | with_reducible refine Below.alloc ?_ (by first | omega | (simp <;> omega)) _))) (rpc_oneCell _) (by simp only [maxLen]; omega) (by omega) (by first | omega | (simp <;> omega)) ?_; intro A3 c3 w7 r1 hb7; have hbA := Below.trans (B := w6.heap.size) (a := w6) (by repeat (first | with_reducible exact Below.refl _ _ | with_reducible assumption | with_reducible refine Below.drew ?_ | with_reducible refine below_drewN ?_ _ | with_reducible refine Below.setCell ?_ (by first | omega | (simp <;> omega)) _ | with_reducible refine Below.alloc ?_ (by first | omega | (simp <;> omega)) _)) (hb7.mono (by first | omega | (simp <;> omega))); have hsA := hbA.size)
                         | (refine step_append_E rfl (.tmp 110) (.tmp 117) 27 rfl w6.heap.size 33 i0 _ 2 24 Try.underlying27 hi0 hz0 hz1 hz2 rfl (by decide) A3 m c3 (rpc (L.map says)) (by rfl) (by first | exact r1 | exact r1.drew | exact r1.alloc _ | exact OwnE.drew (r1.alloc _) | exact (OwnE.drew r1).alloc _) _ _ 1 1 [.int .i64 t', .string (strOfNums l)] (by rfl) (reads_blk (by first | exact blk_new rfl | exact blk_new (by simp) | exact (hb7.block _ (by first | (simp; done) | (simp; omega))).trans (blk_new (by simp)) | exact (hb7.block _ (by first | (simp; done) | (simp; omega))).trans ((blk_old (by simp)).trans (blk_new (by simp))))) (by intro u hu; simp at hu; rcases hu with rfl | rfl <;> rfl) (by simp only [maxLen]; omega) (by omega) (by first | omega | (simp <;> omega)) ?_; intro A4 c4 w8 r2 g8 hb8; have hbE := Below.trans (B := w6.heap.size) (a := w6) (by repeat (first | with_reducible exact Below.refl _ _ | with_reducible assumption | with_reducible refine Below.drew ?_ | with_reducible refine below_drewN ?_ _ | with_reducible refine Below.setCell ?_ (by first | omega | (simp <;> omega)) _ | with_reducible refine Below.alloc ?_ (by first | omega | (simp <;> omega)) _)) hb8))
                     all_goals
                       go_wp2_with fail
                       go_meet
                       exact ⟨m + 1, _, _, L ++ [(t', A', n1, c', l)], rfl, Lib.hid (len_snoc HM.out _), by omega, Lib.hid (Play.mk HPF.out.1 HPF.out.2 hb6 hbE (len_snoc HM.out _) (by rw [List.map_append, rpc_append]; exact r2))⟩
              · skip
                cases th
                · as_aux_lemma =>
                   have hno := of_decide_eq_false HTH.out.symm
                   have ht := at_no _ i F L wd P1.out (by rw [HM.out]; omega)
                   have ht2 := fun (w' : World) (hb : Below wd.heap.size wd w') => take_no _ i F L w' (P1.out.below hb) (by rw [HM.out]; omega)
                   have HT2 := Lib.hid ht2
                   have HV : Hid (Play w w.heap.size L Ar cr wd) := Lib.hid (HI2.out.below hbc)
                   clear hno ht2
                   go_wp2_with fail
                   refine ht.mono ?_
                   rintro e w6 ⟨rfl, hb6⟩
                   clear ht
                   go_upto_region 29 with fail
                   obtain ⟨wa, hwa⟩ : ∃ v, v = w6.alloc (.cells #[.int .i64 0, .slice none 0 0] 35) := ⟨_, rfl⟩
                   rw [← hwa]
                   have ka : wa.heap[w6.heap.size]? = some (.cells #[.int .i64 0, .slice none 0 0] 35 (0, 0)) := by rw [hwa]; exact blk_new rfl
                   have hba : Below wd.heap.size wd wa := by rw [hwa]; exact hb6.alloc hb6.size _
                   have hs6 := hb6.size
                   have x0 : wa.cell? ⟨wr.heap.size, 0, none⟩ = some (.int .i64 (1 : Nat)) := (hba.cell (p := ⟨wr.heap.size, 0, none⟩) hblk).trans (blk_cell KC.out 0)
                   have x2 : wa.cell? ⟨wr.heap.size, 2, none⟩ = some (.int .i64 i) := (hba.cell (p := ⟨wr.heap.size, 2, none⟩) hblk).trans (blk_cell KC.out 2)
                   have KA := Lib.hid ka
                   clear hwa ka hb6 q0 q1 q2 q3
                   go_wp2_with fail
                   refine (HT2.out wa hba).mono ?_
                   rintro e w7 ⟨rfl, hb7⟩
                   have hba7 : Below wd.heap.size wd w7 := hba.trans (hb7.mono hba.size)
                   have kz := (hb7.block _ (blk_lt KA.out)).trans KA.out
                   have z0 := blk_cell kz 0
                   have z1 := blk_cell kz 1
                   have e0 := blk_frozen kz 0
                   have e1 := blk_frozen kz 1
                   have K7 := Lib.hid kz
                   clear hb7 kz x0 x2
                   go_upto_region 31 with fail
                   obtain ⟨wz, hwz⟩ : ∃ v, v = (w7.setCell ⟨w6.heap.size, 0, none⟩ (.int .i64 0)).setCell ⟨w6.heap.size, 1, none⟩ (.slice none 0 0) := ⟨_, rfl⟩
                   rw [← hwz]
                   have kz : wz.heap[w6.heap.size]? = some (.cells #[.int .i64 0, .slice none 0 0] 35 (0, 0)) := by rw [hwz]; exact blk_set (blk_set K7.out 0 _) 1 _
                   have hbz : Below wd.heap.size wd wz := by rw [hwz]; exact (hba7.setCell hs6 _).setCell hs6 _
                   have HV2 : Hid (Play w w.heap.size L Ar cr wz) := Lib.hid (HV.out.below hbz)
                   clear z0 z1 e0 e1
                   have z0 := blk_cell kz 0
                   have z1 := blk_cell kz 1
                   clear hwz kz HV hba hba7
                   go_wp2_with fail
                   go_quiet (fail)
                   go_wp2_with fail
                   go_meet
                   exact ⟨m, cr, Ar, L, rfl, HM, hm, Lib.hid (HV2.out.below (by repeat (first | with_reducible exact Below.refl _ _ | with_reducible assumption | with_reducible refine Below.drew ?_ | with_reducible refine below_drewN ?_ _ | with_reducible refine Below.setCell ?_ (by first | omega | (simp <;> omega)) _ | with_reducible refine Below.alloc ?_ (by first | omega | (simp <;> omega)) _)))⟩
                · as_aux_lemma =>
                   have hin := of_decide_eq_true HTH.out.symm
                   obtain ⟨j, rfl⟩ : ∃ j : Nat, i = (j : Int) := ⟨i.toNat, by omega⟩
                   have hj : j < m := by omega
                   clear hin
                   obtain ⟨⟨tt, AA, nn, cc, ll⟩, hx⟩ : ∃ x, L[j]? = some x := ⟨_, List.getElem?_eq_getElem (by rw [HM.out]; exact hj)⟩
                   have ht := at_yes _ j F L wd P1.out hx
                   have ht2 := fun (w' : World) (hb : Below wd.heap.size wd w') => take_yes _ j F L w' (P1.out.below hb) hx
                   have HT2 := Lib.hid ht2
                   have hs : (L.map says)[j]? = some (tt, ll) := by rw [List.getElem?_map, hx]; rfl
                   have HS := Lib.hid hs
                   clear hx hs ht2
                   go_wp2_with fail
                   refine ht.mono ?_
                   rintro e w6 ⟨A', c', rfl, hby, hb6⟩
                   clear ht hby
                   go_upto_region 29 with fail
                   obtain ⟨wa, hwa⟩ : ∃ v, v = w6.alloc (.cells #[.int .i64 tt, .slice A' nn c'] 35) := ⟨_, rfl⟩
                   rw [← hwa]
                   have ka : wa.heap[w6.heap.size]? = some (.cells #[.int .i64 tt, .slice A' nn c'] 35 (0, 0)) := by rw [hwa]; exact blk_new rfl
                   have hba : Below wd.heap.size wd wa := by rw [hwa]; exact hb6.alloc hb6.size _
                   have hs6 := hb6.size
                   have hsa : wa.heap.size = w6.heap.size + 1 := by rw [hwa]; simp
                   have x0 : wa.cell? ⟨wr.heap.size, 0, none⟩ = some (.int .i64 (1 : Nat)) := (hba.cell (p := ⟨wr.heap.size, 0, none⟩) hblk).trans (blk_cell KC.out 0)
                   have x2 : wa.cell? ⟨wr.heap.size, 2, none⟩ = some (.int .i64 (j : Nat)) := (hba.cell (p := ⟨wr.heap.size, 2, none⟩) hblk).trans (blk_cell KC.out 2)
                   have KA := Lib.hid ka
                   have HSA := Lib.hid hsa
                   have HWA := Lib.hid hwa
                   have HB6 := Lib.hid hb6
                   clear hwa ka hb6 hsa q0 q1 q2 q3
                   go_wp2_with fail
                   refine (HT2.out wa hba).mono ?_
                   rintro e w7 ⟨A2, c2, rfl, hby, s1, s2⟩
                   have hFa : ¬ F w6.heap.size := fun h => by have := P1.out.lt _ h; omega
                   have kz := (s2.block _ (blk_lt KA.out) hFa).trans KA.out
                   have z0 := blk_cell kz 0
                   have z1 := blk_cell kz 1
                   have e0 := blk_frozen kz 0
                   have e1 := blk_frozen kz 1
                   have K7 := Lib.hid kz
                   have HBY := Lib.hid hby
                   have HS12 := Lib.hid (And.intro s1 s2)
                   clear kz x0 x2 hby s1 s2
                   go_upto_region 31 with fail
                   obtain ⟨wz, hwz⟩ : ∃ v, v = (w7.setCell ⟨w6.heap.size, 0, none⟩ (.int .i64 tt)).setCell ⟨w6.heap.size, 1, none⟩ (.slice A2 nn c2) := ⟨_, rfl⟩
                   rw [← hwz]
                   have kz : wz.heap[w6.heap.size]? = some (.cells #[.int .i64 tt, .slice A2 nn c2] 35 (0, 0)) := by rw [hwz]; exact blk_set (blk_set K7.out 0 _) 1 _
                   have hfs : Fr (· = w6.heap.size) w7 wz := by rw [hwz]; exact fr_set2 _ _ _ _
                   have hfz : Fr F wd wz := by rw [hwz]; exact took_frame HB6.out HWA.out HS12.out.2 _ _
                   have hoz : wz.ownsRow wa.heap.size 5 1 (.slice A2 nn c2) nn (cells .u8 ll) := own_fr HBY.out hfs (fun g hg e => by
                     rcases own_addr HBY.out with e2 | ⟨g', e2, h3, _⟩
                     · rw [e2] at hg; cases hg
                     · rw [e2] at hg
                       simp only [Value.ownBlock, Option.some.injEq] at hg
                       have := HSA.out
                       have e' : g = w6.heap.size := e
                       omega)
                   have hbyz := run_str (Reads.of_own hoz)
                   have hbyq : ∀ nq, (convert 28 9 (.slice A2 nn c2)).run Try.prog (wz.drewN nq) = .ok (.string (strOfNums ll)) (wz.drewN nq) := fun nq => run_str ((Reads.of_own hoz).drewN nq)
                   have hpz : PostAt wz w.heap.size F (L.take j ++ L.drop (j + 1)) := HS12.out.1.fr hfs (fun k e hF => hFa (by have e' : k = w6.heap.size := e; rw [← e']; exact hF))
                   have hb6z : Below w.heap.size w wz := fr_below p3 hfz P2.out
                   have pz := P4.out.fr_ hfz (fun a ha h0 hF => P5.out a ha (by rw [HM.out]; exact h0) hF)
                   have hkx := (hfz.block _ hblk hFb).trans KC.out
                   have hzx := blk_lt hkx
                   have HPZ := Lib.hid hpz
                   have HB6Z := Lib.hid hb6z
                   have pz' := pz
                   obtain ⟨g2, o2, rfl, hg2, hcr⟩ := pz'.2.2.2.2 (by omega)
                   obtain ⟨Ad, hAd, hD⟩ := pz.drop_ (k := j + 1) (by omega)
                   have hTk := pz.take (k := j) (by omega) (by decide)
                   have hcm := pz.2.1
                   have hcx := pz.2.2.1
                   obtain ⟨r0, r1⟩ := rpc_get HS.out
                   have y0 := hcr _ _ r0
                   have y1 := hcr _ _ r1
                   rw [← Nat.add_assoc] at y1
                   have HD := Lib.hid hD
                   have HTK := Lib.hid hTk
                   clear z0 z1 e0 e1
                   have z0 := blk_cell kz 0
                   have z1 := blk_cell kz 1
                   have x0 : wz.cell? ⟨wr.heap.size, 0, none⟩ = some (.int .i64 (1 : Nat)) := blk_cell hkx 0
                   have x2 : wz.cell? ⟨wr.heap.size, 2, none⟩ = some (.int .i64 (j : Nat)) := blk_cell hkx 2
                   have ks : ∀ W' : World, Below wz.heap.size wz W' → W'.cell? ⟨wr.heap.size, 2, none⟩ = some (.int .i64 (j : Nat)) := fun W' hb => (hb.cell (p := ⟨wr.heap.size, 2, none⟩) hzx).trans (blk_cell hkx 2)
                   have KS := Lib.hid ks
                   have b0j : (0 : Int) ≤ (j : Int) := by omega
                   have bjm : (j : Int) < (m : Int) := by omega
                   have d1 : (tt != tt) = false := by simp
                   have d2 : (0 : Int) ≤ (j : Int) + 1 := by omega
                   have d3 : (j : Int) + 1 ≤ (m : Int) := by omega
                   have d4 : ((j : Int) + 1).toNat = j + 1 := by omega
                   have d5 : j ≤ cr := by omega
                   have d6 : j + 1 ≤ cr := by omega
                   have HAD := Lib.hid hAd
                   have d7 : IntKind.i64.wrap ((j : Int) + 1) = (j : Int) + 1 := IntWalk.i64_in _ (by omega)
                   clear hwz kz hfs hfz hoz hpz hb6z pz pz' hkx hcr r0 r1 hD hTk ks hAd hba
                   go_wp2_with fail
                   go_quiet (fail)
                   have hAd := HAD.out
                   clear hbyq hbyz y0 y1 z0 z1
                   go_upto_region 34 with fail
                   go_region_held3 (fun W' => W'.cell? ⟨wr.heap.size, 2, none⟩ = some (.int .i64 (j : Nat)))
                     (exact KS.out _ (by repeat (first | with_reducible exact Below.refl _ _ | with_reducible assumption | with_reducible refine Below.drew ?_ | with_reducible refine below_drewN ?_ _ | with_reducible refine Below.setCell ?_ (by first | omega | (simp <;> omega)) _ | with_reducible refine Below.alloc ?_ (by first | omega | (simp <;> omega)) _)))
                     (first
                       | (refine step_append_0 rfl (.tmp 189) (.tmp 193) 27 rfl wz.heap.size 33 i0 _ 2 24 Try.underlying27 hi0 hz0 hz1 hz2 rfl (by decide) _ (by rfl) _ (some ⟨g2, o2, none⟩) j cr ((rpc (L.map says)).take (j * 2)) (by first | rfl | simp [Act.eval, Act.put]) (HTK.out.next (by repeat (first | with_reducible exact Below.refl _ _ | with_reducible assumption | with_reducible refine Below.drew ?_ | with_reducible refine below_drewN ?_ _ | with_reducible refine Below.setCell ?_ (by first | omega | (simp <;> omega)) _ | with_reducible refine Below.alloc ?_ (by first | omega | (simp <;> omega)) _))) (fun u hu => rpc_oneCell _ u (List.mem_of_mem_take hu)) (by simp only [maxLen]; omega) (by omega) (by first | omega | (simp <;> omega)) ?_; intro A3 c3 w8 r1 hb7; have hbA := Below.trans (B := wz.heap.size) (a := wz) (by repeat (first | with_reducible exact Below.refl _ _ | with_reducible assumption | with_reducible refine Below.drew ?_ | with_reducible refine below_drewN ?_ _ | with_reducible refine Below.setCell ?_ (by first | omega | (simp <;> omega)) _ | with_reducible refine Below.alloc ?_ (by first | omega | (simp <;> omega)) _)) (hb7.mono (by first | omega | (simp <;> omega))); have hsA := hbA.size)
                       | (refine step_append_E rfl (.tmp 194) (.tmp 199) 27 rfl wz.heap.size 33 i0 _ 2 24 Try.underlying27 hi0 hz0 hz1 hz2 rfl (by decide) A3 j c3 ((rpc (L.map says)).take (j * 2)) (by first | rfl | simp [Act.eval, Act.put]) (by first | exact r1 | exact r1.drew) _ (some Ad) (m - (j + 1)) (cr - (j + 1)) ((rpc (L.map says)).drop ((j + 1) * 2)) (by first | rfl | simp [Act.eval, Act.put, hAd]) (HD.out.next (by repeat (first | with_reducible exact Below.refl _ _ | with_reducible assumption | with_reducible refine Below.drew ?_ | with_reducible refine below_drewN ?_ _ | with_reducible refine Below.setCell ?_ (by first | omega | (simp <;> omega)) _ | with_reducible refine Below.alloc ?_ (by first | omega | (simp <;> omega)) _))) (fun u hu => rpc_oneCell _ u (List.mem_of_mem_drop hu)) (by simp only [maxLen]; omega) (by omega) (by first | omega | (simp <;> omega)) ?_; intro A4 c4 w9 r2 g8 hb8; have hbE := Below.trans (B := wz.heap.size) (a := wz) (by repeat (first | with_reducible exact Below.refl _ _ | with_reducible assumption | with_reducible refine Below.drew ?_ | with_reducible refine below_drewN ?_ _ | with_reducible refine Below.setCell ?_ (by first | omega | (simp <;> omega)) _ | with_reducible refine Below.alloc ?_ (by first | omega | (simp <;> omega)) _)) hb8))
                   all_goals
                     go_wp2_with fail
                     go_meet
                     exact ⟨_, _, _, L.take j ++ L.drop (j + 1), rfl, Lib.hid (by rw [List.length_append, List.length_take, List.length_drop, HM.out]; omega), by omega, Lib.hid (Play.mk (n := j + (m - (j + 1))) HPZ.out P2.out HB6Z.out hbE (by rw [List.length_append, List.length_take, List.length_drop, HM.out]; omega) (by rw [List.map_append, List.map_take, List.map_drop, rpc_append, rpc_take, rpc_drop]; exact r2))⟩
              · skip
                cases th
                · as_aux_lemma =>
                   have hno := of_decide_eq_false HTH.out.symm
                   have ht := double_no _ i F L wd P1.out (by rw [HM.out]; omega)
                   have HV : Hid (Play w w.heap.size L Ar cr wd) := Lib.hid (HI2.out.below hbc)
                   clear hno
                   go_wp2_with fail
                   refine ht.mono ?_
                   rintro e w6 ⟨rfl, hb6⟩
                   clear ht
                   go_wp2_with fail
                   go_meet
                   exact ⟨m, cr, Ar, L, rfl, HM, hm, Lib.hid (HV.out.below hb6)⟩
                · have hin := of_decide_eq_true HTH.out.symm
                  obtain ⟨j, rfl⟩ : ∃ j : Nat, i = (j : Int) := ⟨i.toNat, by omega⟩
                  have hj : j < m := by omega
                  clear hin
                  by_cases hfull : m < 40
                  · as_aux_lemma =>
                     obtain ⟨⟨tt, AA, nn, cc, ll⟩, hx⟩ : ∃ x, L[j]? = some x := ⟨_, List.getElem?_eq_getElem (by rw [HM.out]; exact hj)⟩
                     have ht := double_yes _ j F L wd P1.out hx (by rw [HM.out]; exact hfull)
                     have b40 : decide ((m : Int) < 40) = true := dec_yes (by omega)
                     have hs : (L.map says)[j]? = some (tt, ll) := by rw [List.getElem?_map, hx]; rfl
                     have HS := Lib.hid hs
                     clear hx hs
                     go_wp2_with fail
                     refine ht.mono ?_
                     rintro e w6 ⟨rfl, A', c', F', s1, s2, s3⟩
                     have hb6 : Below w.heap.size w w6 := fr_below p3 s2 P2.out
                     have p46 := P4.out.fr_ s2 (fun a ha h0 hF => P5.out a ha (by rw [HM.out]; exact h0) hF)
                     have hF2 : ∀ k, F' k → w.heap.size ≤ k := fun k hk => (s3 k hk).elim (P2.out k) (fun h => Nat.le_trans p3.size h)
                     have k6 := (s2.block _ hblk hFb).trans KC.out
                     have hz6 := blk_lt k6
                     have p46' := p46
                     obtain ⟨g2, o2, rfl, hg2, hcr⟩ := p46'.2.2.2.2 (by omega)
                     obtain ⟨r0, r1⟩ := rpc_get HS.out
                     have y0 := hcr _ _ r0
                     have y1 := hcr _ _ r1
                     rw [← Nat.add_assoc] at y1
                     have hk2 : ∀ W' : World, Below w6.heap.size w6 W' → (W'.cell? ⟨wr.heap.size, 2, none⟩ = some (.int .i64 (j : Nat)) ∧ W'.cell? ⟨g2, o2 + j * 2, none⟩ = some (.int .i64 tt) ∧ W'.cell? ⟨g2, o2 + j * 2 + 1, none⟩ = some (.string (strOfNums ll))) := fun W' hb => ⟨(hb.cell (p := ⟨wr.heap.size, 2, none⟩) hz6).trans (blk_cell k6 2), (hb.cell (p := ⟨g2, o2 + j * 2, none⟩) hg2).trans y0, (hb.cell (p := ⟨g2, o2 + j * 2 + 1, none⟩) hg2).trans y1⟩
                     have KS := Lib.hid hk2
                     have P46 := Lib.hid p46
                     have HPF := Lib.hid (And.intro s1 hF2)
                     have b0j : (0 : Int) ≤ (j : Int) := by omega
                     have bjm : (j : Int) < (m : Int) := by omega
                     clear hk2 ht s1 s2 s3 p46 p46' hF2 k6 q0 q1 q2 q3 hcr r0 r1 y0 y1
                     go_upto_region 19 with fail
                     go_region_held3 (fun W' => W'.cell? ⟨wr.heap.size, 2, none⟩ = some (.int .i64 (j : Nat)) ∧ W'.cell? ⟨g2, o2 + j * 2, none⟩ = some (.int .i64 tt) ∧ W'.cell? ⟨g2, o2 + j * 2 + 1, none⟩ = some (.string (strOfNums ll)))
                       (exact KS.out _ (by repeat (first | with_reducible exact Below.refl _ _ | with_reducible assumption | with_reducible refine Below.drew ?_ | with_reducible refine below_drewN ?_ _ | with_reducible refine Below.setCell ?_ (by first | omega | (simp <;> omega)) _ | with_reducible refine Below.alloc ?_ (by first | omega | (simp <;> omega)) _)))
                       (first
                         | (refine step_append_0 rfl (.tmp 68) (.tmp 69) 27 rfl w6.heap.size 33 i0 _ 2 24 Try.underlying27 hi0 hz0 hz1 hz2 rfl (by decide) _ (by rfl) _ (some ⟨g2, o2, none⟩) m cr (rpc (L.map says)) (by rfl) (P46.out.next (by repeat (first | with_reducible exact Below.refl _ _ | with_reducible assumption | with_reducible refine Below.drew ?_ | with_reducible refine below_drewN ?_ _ | with_reducible refine Below.setCell ?_ (by first | omega | (simp <;> omega)) _ | with_reducible refine Below.alloc ?_ (by first | omega | (simp <;> omega)) _))) (rpc_oneCell _) (by simp only [maxLen]; omega) (by omega) (by first | omega | (simp <;> omega)) ?_; intro A3 c3 w7 r1 hb7; have hbA := Below.trans (B := w6.heap.size) (a := w6) (by repeat (first | with_reducible exact Below.refl _ _ | with_reducible assumption | with_reducible refine Below.drew ?_ | with_reducible refine below_drewN ?_ _ | with_reducible refine Below.setCell ?_ (by first | omega | (simp <;> omega)) _ | with_reducible refine Below.alloc ?_ (by first | omega | (simp <;> omega)) _)) (hb7.mono (by first | omega | (simp <;> omega))); have hsA := hbA.size)
                         | (refine step_append_E rfl (.tmp 70) (.tmp 76) 27 rfl w6.heap.size 33 i0 _ 2 24 Try.underlying27 hi0 hz0 hz1 hz2 rfl (by decide) A3 m c3 (rpc (L.map says)) (by rfl) (by first | exact r1 | exact r1.drew | exact r1.alloc _ | exact OwnE.drew (r1.alloc _) | exact (OwnE.drew r1).alloc _) _ _ 1 1 [.int .i64 tt, .string (strOfNums ll)] (by rfl) (reads_blk (by first | exact blk_new rfl | exact blk_new (by simp) | exact (hb7.block _ (by first | (simp; done) | (simp; omega))).trans (blk_new (by simp)) | exact (hb7.block _ (by first | (simp; done) | (simp; omega))).trans ((blk_old (by simp)).trans (blk_new (by simp))))) (by intro u hu; simp at hu; rcases hu with rfl | rfl <;> rfl) (by simp only [maxLen]; omega) (by omega) (by first | omega | (simp <;> omega)) ?_; intro A4 c4 w8 r2 g8 hb8; have hbE := Below.trans (B := w6.heap.size) (a := w6) (by repeat (first | with_reducible exact Below.refl _ _ | with_reducible assumption | with_reducible refine Below.drew ?_ | with_reducible refine below_drewN ?_ _ | with_reducible refine Below.setCell ?_ (by first | omega | (simp <;> omega)) _ | with_reducible refine Below.alloc ?_ (by first | omega | (simp <;> omega)) _)) hb8))
                     all_goals
                       go_wp2_with fail
                       go_meet
                       exact ⟨m + 1, _, _, L ++ [(tt, A', nn, c', ll)], rfl, Lib.hid (len_snoc HM.out _), by omega, Lib.hid (Play.mk HPF.out.1 HPF.out.2 hb6 hbE (len_snoc HM.out _) (by rw [List.map_append, rpc_append]; exact r2))⟩
                  · as_aux_lemma =>
                     have ht := double_full _ j F L wd P1.out (by rw [HM.out]; exact hj) (by rw [HM.out]; omega)
                     have HV : Hid (Play w w.heap.size L Ar cr wd) := Lib.hid (HI2.out.below hbc)
                     have b40 : decide ((m : Int) < 40) = false := dec_no (by omega)
                     go_wp2_with fail
                     refine ht.mono ?_
                     rintro e w6 ⟨rfl, hb6⟩
                     clear ht
                     go_wp2_with fail
                     go_meet
                     exact ⟨m, cr, Ar, L, rfl, HM, hm, Lib.hid (HV.out.below hb6)⟩
              · skip
                cases th
                · as_aux_lemma =>
                   have hno := of_decide_eq_false HTH.out.symm
                   have ht := at_no _ i F L wd P1.out (by rw [HM.out]; omega)
                   have HV : Hid (Play w w.heap.size L Ar cr wd) := Lib.hid (HI2.out.below hbc)
                   clear hno
                   go_wp2_with fail
                   refine ht.mono ?_
                   rintro e w6 ⟨rfl, hb6⟩
                   clear ht
                   go_upto_region 29 with fail
                   obtain ⟨wz, hwz⟩ : ∃ v, v = w6.alloc (.cells #[.int .i64 0, .slice none 0 0] 35) := ⟨_, rfl⟩
                   rw [← hwz]
                   have kz : wz.heap[w6.heap.size]? = some (.cells #[.int .i64 0, .slice none 0 0] 35 (0, 0)) := by rw [hwz]; exact blk_new rfl
                   have hbz : Below wd.heap.size wd wz := by rw [hwz]; exact hb6.alloc hb6.size _
                   have HV2 : Hid (Play w w.heap.size L Ar cr wz) := Lib.hid (HV.out.below hbz)
                   have z0 := blk_cell kz 0
                   have z1 := blk_cell kz 1
                   have x0 : wz.cell? ⟨wr.heap.size, 0, none⟩ = some (.int .i64 (3 : Nat)) := (hbz.cell (p := ⟨wr.heap.size, 0, none⟩) hblk).trans (blk_cell KC.out 0)
                   clear hwz kz hb6 q0 q1 q2 q3 HV
                   go_wp2_with fail
                   go_quiet (fail)
                   go_wp2_with fail
                   go_meet
                   exact ⟨m, cr, Ar, L, rfl, HM, hm, Lib.hid (HV2.out.below (by repeat (first | with_reducible exact Below.refl _ _ | with_reducible assumption | with_reducible refine Below.drew ?_ | with_reducible refine below_drewN ?_ _ | with_reducible refine Below.setCell ?_ (by first | omega | (simp <;> omega)) _ | with_reducible refine Below.alloc ?_ (by first | omega | (simp <;> omega)) _)))⟩
                · as_aux_lemma =>
                   have hin := of_decide_eq_true HTH.out.symm
                   obtain ⟨j, rfl⟩ : ∃ j : Nat, i = (j : Int) := ⟨i.toNat, by omega⟩
                   have hj : j < m := by omega
                   clear hin
                   obtain ⟨⟨tt, AA, nn, cc, ll⟩, hx⟩ : ∃ x, L[j]? = some x := ⟨_, List.getElem?_eq_getElem (by rw [HM.out]; exact hj)⟩
                   have ht := at_yes _ j F L wd P1.out hx
                   have hs : (L.map says)[j]? = some (tt, ll) := by rw [List.getElem?_map, hx]; rfl
                   have HS := Lib.hid hs
                   have HV : Hid (Play w w.heap.size L Ar cr wd) := Lib.hid (HI2.out.below hbc)
                   clear hx hs
                   go_wp2_with fail
                   refine ht.mono ?_
                   rintro e w6 ⟨A', c', rfl, hby, hb6⟩
                   clear ht
                   go_upto_region 29 with fail
                   obtain ⟨wz, hwz⟩ : ∃ v, v = w6.alloc (.cells #[.int .i64 tt, .slice A' nn c'] 35) := ⟨_, rfl⟩
                   rw [← hwz]
                   have kz : wz.heap[w6.heap.size]? = some (.cells #[.int .i64 tt, .slice A' nn c'] 35 (0, 0)) := by rw [hwz]; exact blk_new rfl
                   have hbz : Below wd.heap.size wd wz := by rw [hwz]; exact hb6.alloc hb6.size _
                   have hbyz := run_str (Reads.of_own (show wz.ownsRow wd.heap.size 5 1 (.slice A' nn c') nn (cells .u8 ll) by rw [hwz]; exact hby.alloc _))
                   have hbyq : ∀ nq, (convert 28 9 (.slice A' nn c')).run Try.prog (wz.drewN nq) = .ok (.string (strOfNums ll)) (wz.drewN nq) := fun nq => run_str ((Reads.of_own (show wz.ownsRow wd.heap.size 5 1 (.slice A' nn c') nn (cells .u8 ll) by rw [hwz]; exact hby.alloc _)).drewN nq)
                   have HV2 : Hid (Play w w.heap.size L Ar cr wz) := Lib.hid (HV.out.below hbz)
                   have pz := P4.out.next hbz
                   obtain ⟨g2, o2, rfl, hg2, hcr⟩ := pz.2.2.2.2 (by omega)
                   obtain ⟨r0, r1⟩ := rpc_get HS.out
                   have y0 := hcr _ _ r0
                   have y1 := hcr _ _ r1
                   rw [← Nat.add_assoc] at y1
                   have z0 := blk_cell kz 0
                   have z1 := blk_cell kz 1
                   have x0 : wz.cell? ⟨wr.heap.size, 0, none⟩ = some (.int .i64 (3 : Nat)) := (hbz.cell (p := ⟨wr.heap.size, 0, none⟩) hblk).trans (blk_cell KC.out 0)
                   have x2 : wz.cell? ⟨wr.heap.size, 2, none⟩ = some (.int .i64 (j : Nat)) := (hbz.cell (p := ⟨wr.heap.size, 2, none⟩) hblk).trans (blk_cell KC.out 2)
                   have b0j : (0 : Int) ≤ (j : Int) := by omega
                   have bjm : (j : Int) < (m : Int) := by omega
                   have e1 : (tt != tt) = false := by simp
                   clear hwz kz hb6 q0 q1 q2 q3 HV pz hcr r0 r1 hby
                   go_wp2_with fail
                   go_quiet (fail)
                   go_wp2_with fail
                   go_meet
                   exact ⟨m, cr, _, L, rfl, HM, hm, Lib.hid (HV2.out.below (by repeat (first | with_reducible exact Below.refl _ _ | with_reducible assumption | with_reducible refine Below.drew ?_ | with_reducible refine below_drewN ?_ _ | with_reducible refine Below.setCell ?_ (by first | omega | (simp <;> omega)) _ | with_reducible refine Below.alloc ?_ (by first | omega | (simp <;> omega)) _)))⟩
            case rest =>
              as_aux_lemma =>
               obtain ⟨m', cr', Ar', L', rfl, HM', hm', HV'⟩ := hcut
               obtain ⟨F, p1, p2, p3, p4, p5⟩ := HV'.out
               have hlen := len_post p1
               have hlist : Calls Try.prog 15 #[.pointer (some ⟨w.heap.size, 0, none⟩)] wc fun e w' => ∃ A c, e = .returned (.slice A m' c) ∧ RowM w' wc.heap.size A m' c L' ∧ Below wc.heap.size wc w' := by
                 have := list_any _ F L' wc p1
                 unfold Listed at this
                 rw [HM'.out] at this
                 exact this
               rw [HM'.out] at hlen p4
               have P4 := Lib.hid p4
               have j1 : ((m' : Int) != (m' : Int)) = false := by simp
               clear p1 p2 p3 p4 p5 q0 q1 q2 q3
               go_wp2_with fail
               refine hlen.mono ?_
               rintro e w6 ⟨rfl, rfl⟩
               clear hlen
               go_wp2_with fail
               refine hlist.mono ?_
               rintro e w7 ⟨AL, cL, rfl, hrow, hb7⟩
               have hal := alike_reads _ _ m' cL cr' AL Ar' L' w7 hrow (P4.out.next hb7) (by omega)
               clear hlist hrow
               go_wp2_with fail
               refine hal.mono ?_
               rintro e w8 ⟨rfl, hb8⟩
               have hb78 := hb7.trans (hb8.mono hb7.size)
               clear hal hb7 hb8
               go_wp2_with fail
               go_roundg (n - (k + 1))
               case measure => have := HK.out; omega
               case rel => exact ⟨k + 1, m', cr', Ar', L', by omega, by go_num, rfl, HM', hm', Lib.hid (HV'.out.below hb78)⟩
      · as_aux_lemma =>
         obtain rfl : k = n := by omega
         have hba : Below w.heap.size w wr := by obtain ⟨F, -, -, h, -⟩ := HI2.out; exact h
         go_wp2_with fail
         refine (known_any _).mono ?_
         rintro e w2 ⟨rfl, hb2⟩
         go_wp2_with fail
         go_ret
         exact ⟨rfl, hba.trans (hb2.mono hba.size)⟩
end Go.Proofs.Ytpgadahijhfphaa

