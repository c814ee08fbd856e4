/- The law PostCounts: the walk. -/
import Derived.Test.YtpgadahijhfphaaPostJ
import Derived.Deep.CutBlock
import Derived.StillTailTactics
namespace Go.Proofs.Ytpgadahijhfphaa
open Go.RowKit

theorem fr_below {w wr w' : World} {F : Nat → Prop} (hb : Below w.heap.size w wr) (hf : Fr F wr w') (hF : ∀ k, F k → w.heap.size ≤ k) : Below w.heap.size w w' := hb.trans (hf.below hb.size hF)

theorem post_to {w : World} {b : Nat} {F : Nat → Prop} {L : List Pcl} (h : PostAt w b F L) {i : Nat} {t : Int} {A : Option Addr} {n c : Nat} {l : List Int} (hx : L[i]? = some (t, A, n, c, l)) : t = 1 ∨ t = 2 := by
  obtain ⟨R, c0, h1, h2, h3, h4, h5, h6, h7⟩ := h
  exact (h5 _ (List.mem_of_getElem? hx)).2.2.1

/-- What the laws carry from round to round. -/
def Inv (w : World) (b : Nat) (L : List Pcl) (wr : World) : Prop := ∃ F, PostAt wr b F L ∧ (∀ k, F k → w.heap.size ≤ k) ∧ Below w.heap.size w wr
theorem Inv.below {w wr w' : World} {b : Nat} {L : List Pcl} (h : Inv w b L wr) (hb : Below wr.heap.size wr w') : Inv w b L w' := by
  obtain ⟨F, h1, h2, h3⟩ := h
  exact ⟨F, h1.below hb, h2, h3.trans (hb.mono h3.size)⟩
theorem Inv.sent {w wr w' : World} {b n : Nat} {L : List Pcl} {F : Nat → Prop} {t : Int} {l : List Int} (h2 : ∀ k, F k → w.heap.size ≤ k) (h3 : Below w.heap.size w wr) (hs : Sent wr b F L t n l w') : ∃ A' c', Inv w b (L ++ [(t, A', n, c', l)]) w' := by
  obtain ⟨A', c', F', s1, s2, s3⟩ := hs
  exact ⟨A', c', F', s1, fun k hk => (s3 k hk).elim (h2 k) (fun h => Nat.le_trans h3.size h), fr_below h3 s2 h2⟩

set_option maxRecDepth 20000 in
set_option maxHeartbeats 4000000 in
theorem counts_law (A : Option Addr) (n c : Nat) (L0 : List Actc) (w : World) (h : ActsAt w w.heap.size A n c L0) :
    Calls Try.prog 5 #[.slice A n c] w fun e w' => e = .returned (.bool true) ∧ Below w.heap.size w w' := by
  have hbig := h.1.big
  have hfew := few_any A n c L0 w h
  cases hf : fewB L0
  · rw [hf] at hfew
    go_enter Try.func5, Try.ntmps5
    go_wp2_with fail
    refine hfew.mono ?_
    rintro e w1 ⟨rfl, rfl⟩
    clear hfew
    go_wp2_with fail
    refine (known_any _).mono ?_
    rintro e w2 ⟨rfl, hb2⟩
    go_wp2_with fail
    go_ret
    exact ⟨rfl, hb2⟩
  · rw [hf] at hfew
    obtain ⟨f1, f2⟩ := few_is hf
    rw [h.length] at f1
    have F2 := Lib.hid f2
    clear f2 hf
    go_enter Try.func5, Try.ntmps5
    go_wp2_with fail
    refine hfew.mono ?_
    rintro e w1 ⟨rfl, rfl⟩
    clear hfew
    go_wp2_with fail
    refine (new_any _).mono ?_
    rintro e w1 ⟨rfl, hw1⟩
    have hp := new_post w
    rw [hw1] at hp
    have hi : Inv w w.heap.size [] w1 := ⟨_, hp, fun k hk => by rw [hk]; exact Nat.le_refl _, by rw [← hw1]; exact (Below.refl _ _).alloc (Nat.le_refl _) _⟩
    have HI := Lib.hid hi
    clear hw1 hp hi
    go_wp2_with fail
    go_loopg [4, 5] n (fun gk v i wr => ∃ (k m : Nat) (L : List Pcl), k + gk = n ∧ i = .int .i64 (k : Nat) ∧ v = .int .i64 (m : Nat) ∧ Hid (L.length = m) ∧ m ≤ 40 ∧ Hid (Inv w w.heap.size L wr))
    case atStart => exact ⟨0, 0, [], by omega, rfl, rfl, Lib.hid rfl, by omega, HI⟩
    case round =>
      obtain ⟨k, m, L, hk, rfl, rfl, HM, hm, HI2⟩ := hrel
      have HK := Lib.hid hk
      have hkn : k ≤ n := by omega
      clear hk HI
      by_cases hlt : k < n
      · have hba : Below w.heap.size w wr := by obtain ⟨F, -, -, h⟩ := HI2.out; exact h
        have hact := h.below hba
        obtain ⟨ba, oa, a, t, i, A1, n1, c1, l, rfl, hbl, hx, y0, y1, y2, y3, hr⟩ := hact.at_ hlt
        have b0 : (0 : Int) ≤ (k : Int) := by omega
        have bk : (k : Int) < (n : Int) := by omega
        have e1 : bits .and .i64 a 3 = a % 4 := i64_mask 2 (by decide) a 3 (by decide)
        have e2 : bits .and .i64 t 1 = t % 2 := i64_mask 1 (by decide) t 1 (by decide)
        have e3 : bits .and .i64 i 63 = i % 64 := i64_mask 6 (by decide) i 63 (by decide)
        obtain ⟨q, hq⟩ : ∃ q : Nat, a % 4 = (q : Int) := ⟨(a % 4).toNat, by omega⟩
        obtain ⟨t2, ht2⟩ : ∃ q : Nat, t % 2 = (q : Int) := ⟨(t % 2).toNat, by omega⟩
        obtain ⟨i2, hi2⟩ : ∃ q : Nat, i % 64 = (q : Int) := ⟨(i % 64).toNat, by omega⟩
        have q4 : q < 4 := by omega
        have t4 : t2 < 2 := by omega
        have i4 : i2 < 64 := by omega
        rw [hq] at e1
        rw [ht2] at e2
        rw [hi2] at e3
        clear hq ht2 hi2
        have HA := Lib.hid hact
        have HBA := Lib.hid hba
        have HR := Lib.hid hr
        have hlen1 : n1 ≤ 5000 := by
          have := F2.out _ (List.mem_of_getElem? hx)
          exact this
        clear hact hba hr hx
        go_upto_block 2 with fail
        go_cut [4] (fun s4 wc => ∃ (m' : Nat) (L' : List Pcl), s4 = .int .i64 (m' : Nat) ∧ L'.length = m' ∧ m' ≤ 40 ∧ Hid (Inv w w.heap.size L' wc))
        case first =>
          obtain ⟨F, p1, p2, p3⟩ := HI2.out
          have hblen := p3.size
          rcases (by omega : q = 0 ∨ q = 1 ∨ q = 2 ∨ q = 3) with rfl | rfl | rfl | rfl
          · by_cases hyes : n1 ≤ 4096 ∧ m < 40
            · have ht := fun (w' : World) (hb : Below wr.heap.size wr w') (hr : Reads w' w'.heap.size 1 A1 n1 c1 (cells .u8 l)) => send_yes _ n1 c1 A1 (1 + (t2 : Int)) l F L w' (p1.below hb) hr (by omega) hyes.1 (by rw [HM.out]; exact hyes.2)
              have hr2 := (HR.out.more hblen).next (Below.drew (Below.refl _ _))
              have p3d : Below w.heap.size w wr.drew := p3.drew
              have htd := ht _ (Below.drew (Below.refl _ _)) hr2
              clear ht
              go_wp2_with fail
              have hwrap : IntKind.i64.wrap (1 + (t2 : Int)) = 1 + (t2 : Int) := IntWalk.i64_in _ (by omega)
              clear y0 y2 p1
              go_still_tail 13, (by kernel_rfl)
              clear hwrap y1 y3 hr2
              change wpList _ _ _ _ _ wr.drew
              obtain ⟨wd, hwd⟩ : ∃ v, v = wr.drew := ⟨_, rfl⟩
              rw [← hwd] at htd p3d ⊢
              clear hwd
              go_wp2_with fail
              refine htd.mono ?_
              rintro e w6 ⟨rfl, hs⟩
              obtain ⟨A', c', hinv⟩ := Inv.sent p2 p3d hs
              have HV := Lib.hid hinv
              clear hs hinv htd
              go_wp2_with fail
              go_meet
              exact ⟨m + 1, _, by go_num, by rw [List.length_append, HM.out]; rfl, by omega, HV⟩
            · have hno : (1 + (t2 : Int)) < 1 ∨ 2 < (1 + (t2 : Int)) ∨ 4096 < n1 ∨ 40 ≤ m := by omega
              have ht : ∀ w' : World, Below wr.heap.size wr w' → Calls Try.prog 9 #[.pointer (some ⟨w.heap.size, 0, none⟩), .int .i64 (1 + (t2 : Int)), .slice A1 n1 c1] w' fun e w'' => e = .returned (.bool false) ∧ w' = w'' := fun w' hb => by
                obtain ⟨R, c0, h1, -⟩ := p1.below hb
                rw [HM.out] at h1
                exact send_no _ n1 c1 m c0 A1 R _ w' h1 (by omega) (by omega) hm
              have hr2 := (HR.out.more hblen).next (Below.drew (Below.refl _ _))
              have p3d : Below w.heap.size w wr.drew := p3.drew
              have htd := ht _ (Below.drew (Below.refl _ _))
              clear ht
              go_wp2_with fail
              have hwrap : IntKind.i64.wrap (1 + (t2 : Int)) = 1 + (t2 : Int) := IntWalk.i64_in _ (by omega)
              clear y0 y2 p1
              go_still_tail 13, (by kernel_rfl)
              clear hwrap y1 y3 hr2
              change wpList _ _ _ _ _ wr.drew
              obtain ⟨wd, hwd⟩ : ∃ v, v = wr.drew := ⟨_, rfl⟩
              rw [← hwd] at htd p3d ⊢
              have hinv : Inv w w.heap.size L wd := by rw [hwd]; exact HI2.out.below (Below.drew (Below.refl _ _))
              have HV := Lib.hid hinv
              clear hwd hinv hno hyes
              go_wp2_with fail
              refine htd.mono ?_
              rintro e w6 ⟨rfl, rfl⟩
              clear htd
              go_wp2_with fail
              go_meet
              exact ⟨m, L, rfl, HM.out, hm, HV⟩
          · by_cases hin : i2 < m
            · obtain ⟨⟨tt, AA, nn, cc, ll⟩, hx⟩ : ∃ x, L[i2]? = some x := ⟨_, List.getElem?_eq_getElem (by rw [HM.out]; exact hin)⟩
              have ht := take_yes _ i2 F L wr p1 hx
              clear hx
              go_wp2_with fail
              refine ht.mono ?_
              rintro e w6 ⟨A', c', rfl, hby, s1, s2⟩
              have hinv : Inv w w.heap.size (L.take i2 ++ L.drop (i2 + 1)) w6 := ⟨F, s1, p2, fr_below p3 s2 p2⟩
              have HV := Lib.hid hinv
              clear hby s1 s2 ht hinv
              go_wp2_with fail
              go_meet
              exact ⟨m - 1, L.take i2 ++ L.drop (i2 + 1), by rw [show ((m - 1 : Nat) : Int) = (m : Int) - 1 by omega], by rw [List.length_append, List.length_take, List.length_drop, HM.out]; omega, by omega, Lib.hid (HV.out.below (by repeat (first | with_reducible exact Below.refl _ _ | with_reducible assumption | with_reducible refine Below.drew ?_ | with_reducible refine below_drewN ?_ _ | with_reducible refine Below.setCell ?_ (by first | omega | (simp <;> omega)) _ | with_reducible refine Below.alloc ?_ (by first | omega | (simp <;> omega)) _)))⟩
            · have ht := take_no _ (i2 : Int) F L wr p1 (.inr (by rw [HM.out]; omega))
              go_wp2_with fail
              refine ht.mono ?_
              rintro e w6 ⟨rfl, hb6⟩
              have hinv : Inv w w.heap.size L w6 := HI2.out.below hb6
              have HV := Lib.hid hinv
              clear ht hb6 hinv
              go_wp2_with fail
              go_meet
              exact ⟨m, L, rfl, HM.out, hm, Lib.hid (HV.out.below (by repeat (first | with_reducible exact Below.refl _ _ | with_reducible assumption | with_reducible refine Below.drew ?_ | with_reducible refine below_drewN ?_ _ | with_reducible refine Below.setCell ?_ (by first | omega | (simp <;> omega)) _ | with_reducible refine Below.alloc ?_ (by first | omega | (simp <;> omega)) _)))⟩
          · by_cases hin : i2 < m
            · by_cases hfull : m < 40
              · obtain ⟨⟨tt, AA, nn, cc, ll⟩, hx⟩ : ∃ x, L[i2]? = some x := ⟨_, List.getElem?_eq_getElem (by rw [HM.out]; exact hin)⟩
                have ht := double_yes _ i2 F L wr p1 hx (by rw [HM.out]; exact hfull)
                clear hx
                go_wp2_with fail
                refine ht.mono ?_
                rintro e w6 ⟨rfl, hs⟩
                obtain ⟨A', c', hinv⟩ := Inv.sent p2 p3 hs
                have HV := Lib.hid hinv
                clear ht hs hinv
                go_wp2_with fail
                go_meet
                exact ⟨m + 1, _, by go_num, by rw [List.length_append, HM.out]; rfl, by omega, HV⟩
              · have ht := double_full _ i2 F L wr p1 (by rw [HM.out]; exact hin) (by rw [HM.out]; omega)
                go_wp2_with fail
                refine ht.mono ?_
                rintro e w6 ⟨rfl, hb6⟩
                have hinv : Inv w w.heap.size L w6 := HI2.out.below hb6
                have HV := Lib.hid hinv
                clear ht hb6 hinv
                go_wp2_with fail
                go_meet
                exact ⟨m, L, rfl, HM.out, hm, HV⟩
            · have ht := double_no _ (i2 : Int) F L wr p1 (.inr (by rw [HM.out]; omega))
              go_wp2_with fail
              refine ht.mono ?_
              rintro e w6 ⟨rfl, hb6⟩
              have hinv : Inv w w.heap.size L w6 := HI2.out.below hb6
              have HV := Lib.hid hinv
              clear ht hb6 hinv
              go_wp2_with fail
              go_meet
              exact ⟨m, L, rfl, HM.out, hm, HV⟩
          · by_cases hin : i2 < m
            · obtain ⟨⟨tt, AA, nn, cc, ll⟩, hx⟩ : ∃ x, L[i2]? = some x := ⟨_, List.getElem?_eq_getElem (by rw [HM.out]; exact hin)⟩
              have htt := post_to p1 hx
              have ht := at_yes _ i2 F L wr p1 hx
              have dlt : decide ((i2 : Int) < (m : Int)) = true := dec_yes (by omega)
              have dlt' : decide (i2 < m) = true := dec_yes hin
              clear hx
              rcases htt with rfl | rfl
              all_goals
                go_wp2_with fail
                refine ht.mono ?_
                rintro e w6 ⟨A', c', rfl, hby, hb6⟩
                have hinv : Inv w w.heap.size L w6 := HI2.out.below hb6
                have hba6 : Below w.heap.size w w6 := p3.trans (hb6.mono p3.size)
                have z2 := (hba6.cell (p := ⟨ba, oa + k * 4 + 2, none⟩) hbl).symm.symm.trans ((HBA.out.cell (p := ⟨ba, oa + k * 4 + 2, none⟩) hbl).symm.trans y2)
                have hzb : ba < w6.heap.size := by have := hba6.size; omega
                have HV := Lib.hid hinv
                clear ht hb6 hinv hby hba6 y0 y1 y2 y3
                go_wp2_with fail
                go_meet
                exact ⟨m, L, rfl, HM.out, hm, Lib.hid (HV.out.below (by repeat (first | with_reducible exact Below.refl _ _ | with_reducible assumption | with_reducible refine Below.drew ?_ | with_reducible refine below_drewN ?_ _ | with_reducible refine Below.setCell ?_ (by first | omega | (simp <;> omega)) _ | with_reducible refine Below.alloc ?_ (by first | omega | (simp <;> omega)) _)))⟩
            · have ht := at_no _ (i2 : Int) F L wr p1 (.inr (by rw [HM.out]; omega))
              have dlt : decide ((i2 : Int) < (m : Int)) = false := dec_no (by omega)
              have dlt' : decide (i2 < m) = false := dec_no hin
              go_wp2_with fail
              refine ht.mono ?_
              rintro e w6 ⟨rfl, hb6⟩
              have hinv : Inv w w.heap.size L w6 := HI2.out.below hb6
              have hba6 : Below w.heap.size w w6 := p3.trans (hb6.mono p3.size)
              have z2 := (hba6.cell (p := ⟨ba, oa + k * 4 + 2, none⟩) hbl).symm.symm.trans ((HBA.out.cell (p := ⟨ba, oa + k * 4 + 2, none⟩) hbl).symm.trans y2)
              have hzb : ba < w6.heap.size := by have := hba6.size; omega
              have HV := Lib.hid hinv
              clear ht hb6 hinv hba6 y0 y1 y2 y3
              go_wp2_with fail
              go_meet
              exact ⟨m, L, rfl, HM.out, hm, Lib.hid (HV.out.below (by repeat (first | with_reducible exact Below.refl _ _ | with_reducible assumption | with_reducible refine Below.drew ?_ | with_reducible refine below_drewN ?_ _ | with_reducible refine Below.setCell ?_ (by first | omega | (simp <;> omega)) _ | with_reducible refine Below.alloc ?_ (by first | omega | (simp <;> omega)) _)))⟩
        case rest =>
          obtain ⟨m', L', rfl, hM', hm', HI3⟩ := hcut
          have HM' := Lib.hid hM'
          clear hM' HI2 HM y0 y1 y2 y3
          obtain ⟨F, p1, p2, p3⟩ := HI3.out
          have hl := len_post p1
          rw [HM'.out] at hl
          have hls := list_any _ F L' _ p1
          have k1 : ((m' : Int) != (m' : Int)) = false := by simp
          have k2 : decide ((m' : Int) < 0) = false := dec_no (by omega)
          have k3 : decide (40 < (m' : Int)) = false := dec_no (by omega)
          have k4 : decide (40 < m') = false := dec_no (by omega)
          clear p1 p2 p3
          go_wp2_with fail
          refine hl.mono ?_
          rintro e w7 ⟨rfl, rfl⟩
          clear hl
          go_wp2_with fail
          refine hls.mono ?_
          rintro e w7 ⟨AL, cL, rfl, hrow, hb7⟩
          rw [HM'.out]
          have hinv := HI3.out.below hb7
          have HV := Lib.hid hinv
          clear hls hrow hb7 hinv HI3
          go_wp2_with fail
          go_roundg (n - (k + 1))
          case measure => have := HK.out; omega
          case rel => exact ⟨k + 1, m', L', by omega, by go_num, rfl, HM', hm', HV⟩
      · obtain rfl : k = n := by omega
        obtain ⟨F, p1, p2, p3⟩ := HI2.out
        clear p1 p2
        go_wp2_with fail
        refine (known_any _).mono ?_
        rintro e w2 ⟨rfl, hb2⟩
        go_wp2_with fail
        go_ret
        exact ⟨rfl, p3.trans (hb2.mono p3.size)⟩
end Go.Proofs.Ytpgadahijhfphaa
