/- The document's GetClients: the walk. Printed by gen_rget.py. Conditions: those that each theorem states. -/
import Derived.Test.YtongakhcmdkeiaaClAd
import Derived.Test.YtongakhcmdkeiaaClN
namespace Go.Proofs.Ytongakhcmdkeiaa
open Go.RowKit

theorem num3_le {l : List Int} {a i p f b : Nat} (h : num3 l a = some (i, p, f, b)) (ha : a ≤ l.length) : b ≤ l.length ∧ f < 2 ^ 63 := by
  unfold num3 at h
  cases h1 : gvR l a with
  | none => rw [h1] at h; cases h
  | some x1 =>
    obtain ⟨v1, a1⟩ := x1
    rw [h1] at h
    simp only at h
    have e1 := gvR_le h1 ha
    cases h2 : gvR l a1 with
    | none => rw [h2] at h; cases h
    | some x2 =>
      obtain ⟨v2, a2⟩ := x2
      rw [h2] at h
      simp only at h
      have e2 := gvR_le h2 e1.2
      cases h3 : gvR l a2 with
      | none => rw [h3] at h; cases h
      | some x3 =>
        obtain ⟨v3, a3⟩ := x3
        rw [h3] at h
        simp only [Option.some.injEq, Prod.mk.injEq] at h
        obtain ⟨rfl, rfl, rfl, rfl⟩ := h
        have e3 := gvR_le h3 e2.2
        exact ⟨e3.2, e3.1⟩
def rparseN : Nat → Nat → List Int → Option (List Cl)
  | 0, _, _ => some []
  | m + 1, a, l => match num3 l a with
    | none => none
    | some (i, p, f, b) => if 1 < f then none else (rparseN m b l).map ((((i : Nat) : Int), ((p : Nat) : Int), ((f : Nat) : Int) == 1) :: ·)
def rparseM (l : List Int) : Option (List Cl) := match gvR l 0 with
  | none => none
  | some (n, a) => if 4 < n then none else rparseN n a l
def rgetM (l : List Int) : List Cl × Int := match rparseM l with
  | none => ([], 2)
  | some L => if rightB L && eqB (putM L) l then (L, 0) else ([], 2)

set_option maxRecDepth 20000 in
set_option maxHeartbeats 4000000 in
theorem rget_any (A : Option Addr) (n c : Nat) (l : List Int) (w : World) (h : Reads w w.heap.size 1 A n c (cells .u8 l)) (hby : IsBytes l) (hn : n ≤ 10000) :
    Calls Try.prog 15 #[.slice A n c] w fun e w' => OneRes w (rgetM l) e w' := by
  obtain ⟨i0, hi0, hz0, hz1, hz2⟩ := info_parts info42
  have hlen := h.length
  have HL := Lib.hid hlen
  have HBY := Lib.hid hby
  have H := Lib.hid h
  clear hlen hby h
  go_enter Try.func15, Try.ntmps15
  go_wp2_with fail
  refine (rgetvar_any A n c 0 l w H.out HBY.out (by omega) (by omega)).mono ?_
  rintro e w1 ⟨rfl, rfl⟩
  cases hg : gvR l 0 with
  | none =>
    have E : Hid (rgetM l = ([], 2)) := Lib.hid (by unfold rgetM rparseM; rw [hg])
    rw [gvN]
    clear hg
    go_wp2_with fail
    refine bodyPost_ret (v := .tuple #[.slice none 0 0, .int .i64 2]) (by simp [results, Try.results15, go_sem]) rfl ?_
    rw [E.out]
    exact one_none 2 rfl (Below.refl _ _)
  | some x =>
    obtain ⟨v, a0⟩ := x
    rw [gvS]
    obtain ⟨hv63, ha0⟩ := gvR_le hg (Nat.zero_le _)
    by_cases h4 : 4 < v
    · have E : Hid (rgetM l = ([], 2)) := Lib.hid (by unfold rgetM rparseM; rw [hg]; simp [h4])
      have d4 : (4 : Int) < (v : Int) := by omega
      clear hg h4
      go_wp2_with fail
      refine bodyPost_ret (v := .tuple #[.slice none 0 0, .int .i64 2]) (by simp [results, Try.results15, go_sem]) rfl ?_
      rw [E.out]
      exact one_none 2 rfl (Below.refl _ _)
    have EP : Hid (rparseM l = rparseN v a0 l) := Lib.hid (by unfold rparseM; rw [hg]; simp [h4])
    have d4 : ¬ (4 : Int) < (v : Int) := by omega
    have hv4 : v ≤ 4 := by omega
    have HA0 := Lib.hid ha0
    clear hg h4 hv63 ha0
    go_wp2_with fail
    go_loopg [5, 7, 8, 9, 10, 11] v (fun gk ao lo i _ _ _ wr => ∃ (k a c' : Nat) (A' : Option Addr) (acc : List Cl), k + gk = v ∧ i = .int .i64 (k : Nat) ∧ ao = .int .i64 (a : Nat) ∧ lo = .slice A' k c' ∧ wr.ownsRow w.heap.size 42 3 (.slice A' k c') k (clc acc) ∧ Below w.heap.size w wr ∧ Hid (a ≤ l.length) ∧ Hid (rparseN v a0 l = (rparseN gk a l).map (acc ++ ·)))
    case atStart => exact ⟨0, a0, 0, none, [], by omega, rfl, rfl, rfl, World.ownsRow_nil _ _ _ _, Below.refl _ _, HA0, Lib.hid (by simp)⟩
    case round =>
      obtain ⟨k, a, c', A', acc, hk, rfl, rfl, rfl, hown, hb, HA, HE⟩ := hrel
      by_cases hlt : k < v
      · obtain ⟨g, hg⟩ : ∃ g, gk = g + 1 := ⟨gk - 1, by omega⟩
        have HG := Lib.hid hg
        have HK := Lib.hid hk
        clear hg hk
        have hsz := hb.size
        go_wp2_with fail
        refine (num_any A n c a l _ (H.out.next hb) HBY.out hn HA.out).mono ?_
        rintro e w2 h2
        cases hg1 : num3 l a with
        | none =>
          have E2 : Hid (rgetM l = ([], 2)) := Lib.hid (by unfold rgetM; rw [EP.out, HE.out, HG.out]; simp [rparseN, hg1])
          rw [hg1] at h2
          obtain ⟨rfl, hb2⟩ := h2
          clear hg1 HE
          go_wp2_with fail
          refine bodyPost_ret (v := .tuple #[.slice none 0 0, .int .i64 2]) (by simp [results, Try.results15, go_sem]) rfl ?_
          rw [E2.out]
          exact one_none 2 rfl (hb.trans (hb2.mono hb.size))
        | some x1 =>
          obtain ⟨v1, v2, v3, a3⟩ := x1
          rw [hg1] at h2
          obtain ⟨B2, c2, rfl, hown2, hb2⟩ := h2
          have hle := num3_le hg1 HA.out
          obtain ⟨g2, rfl, hg2b, hg2l, y0, -⟩ := own_at hown2 (j := 0) (u := .int .i64 v1) rfl
          obtain ⟨g', eg, -, -, y1, -⟩ := own_at hown2 (j := 1) (u := .int .i64 v2) rfl
          cases eg
          obtain ⟨g', eg, -, -, y2, -⟩ := own_at hown2 (j := 2) (u := .int .i64 v3) rfl
          cases eg
          have hb02 := hb.trans (hb2.mono hb.size)
          have hsz2 := hb02.size
          have HG1 := Lib.hid hg1
          have HA3 := Lib.hid hle.1
          clear hg1 hown2 hle
          by_cases h1 : 1 < v3
          · have E2 : Hid (rgetM l = ([], 2)) := Lib.hid (by unfold rgetM; rw [EP.out, HE.out, HG.out]; simp [rparseN, HG1.out, h1])
            have d1 : (1 : Int) < (v3 : Int) := by omega
            clear HE h1
            go_wp2_with fail
            refine bodyPost_ret (v := .tuple #[.slice none 0 0, .int .i64 2]) (by simp [results, Try.results15, go_sem]) rfl ?_
            rw [E2.out]
            exact one_none 2 rfl hb02
          · have d1 : ¬ (1 : Int) < (v3 : Int) := by omega
            have hown3 := own_below hown hb2 (Nat.le_refl _)
            obtain ⟨fb, hfb⟩ : ∃ fb : Bool, ((v3 : Int) == 1) = fb := ⟨_, rfl⟩
            have HE2 : Hid (rparseN v a0 l = (rparseN g a3 l).map ((acc ++ [((v1 : Int), (v2 : Int), fb)]) ++ ·)) := Lib.hid (by
              rw [HE.out, HG.out]
              simp only [rparseN, HG1.out, if_neg h1, hfb, Option.map_map]
              congr 1
              funext t
              simp)
            have S0 : ∀ W' : World, Below w2.heap.size w2 W' → (W'.cell? ⟨g2, 0, none⟩ = some (.int .i64 v1) ∧ W'.cell? ⟨g2, 1, none⟩ = some (.int .i64 v2) ∧ W'.cell? ⟨g2, 2, none⟩ = some (.int .i64 v3)) := fun W' hb => ⟨(hb.cell (p := ⟨g2, 0, none⟩) hg2l).trans y0, (hb.cell (p := ⟨g2, 1, none⟩) hg2l).trans y1, (hb.cell (p := ⟨g2, 2, none⟩) hg2l).trans y2⟩
            have KS := Lib.hid S0
            have hne : some g2 ≠ (Value.slice A' k c').ownBlock := by intro e; have := (own_lt hown e.symm).2; omega
            have HNE := Lib.hid hne
            have HO := Lib.hid hown3
            have HB02 := Lib.hid hb02
            clear HE h1 hown S0 hown3 hb hb2 hb02 hne
            go_wp2_with fail
            clear y0 y1 y2
            go_region_held3 (fun W' => W'.cell? ⟨g2, 0, none⟩ = some (.int .i64 v1) ∧ W'.cell? ⟨g2, 1, none⟩ = some (.int .i64 v2) ∧ W'.cell? ⟨g2, 2, none⟩ = some (.int .i64 v3))
              (exact (by first | exact HS6.out | exact KS.out _ (by repeat (first | with_reducible exact Below.refl _ _ | with_reducible assumption | with_reducible refine Below.drew ?_ | with_reducible refine below_drewN ?_ _ | with_reducible refine Below.setCell ?_ (by first | omega | (simp <;> omega)) _ | with_reducible refine Below.alloc ?_ (by first | omega | (simp <;> omega)) _))))
              (first | (refine step_append_reads rfl (.tmp 46) (.tmp 58) 24 rfl w.heap.size 42 i0 _ 3 24 Try.underlying24 hi0 hz0 hz1 hz2 rfl (by decide) (.slice A' k c') k (clc acc) (by first | rfl | simp [Act.eval, Act.put]) (own_below HO.out (by repeat (first | with_reducible exact Below.refl _ _ | with_reducible assumption | with_reducible refine Below.drew ?_ | with_reducible refine below_drewN ?_ _ | with_reducible refine Below.setCell ?_ (by first | omega | (simp <;> omega)) _ | with_reducible refine Below.alloc ?_ (by first | omega | (simp <;> omega)) _)) (Nat.le_refl _)) _ _ 1 1 [.int .i64 v1, .int .i64 v2, .bool fb] (by first | rfl | simp [Act.eval, Act.put]) (reads_blk3 (by repeat (first | with_reducible exact blk_new (by first | rfl | (simp; done) | omega) | with_reducible refine drew_ ?_ | with_reducible refine old_ ?_))) (by intro u hu; simp at hu; rcases hu with rfl | rfl | rfl <;> rfl) (by simp only [maxLen]; omega) (by omega) (by first | omega | (simp <;> omega)) ?_; intro A6 c6 w6 r2 g6 hb6 _; have hs6 : w6.cell? ⟨g2, 0, none⟩ = some (.int .i64 v1) ∧ w6.cell? ⟨g2, 1, none⟩ = some (.int .i64 v2) ∧ w6.cell? ⟨g2, 2, none⟩ = some (.int .i64 v3) := ⟨(World.cell?_of_block (g6.block g2 (by first | omega | (simp <;> omega)) HNE.out)).trans (KS.out _ (by repeat (first | with_reducible exact Below.refl _ _ | with_reducible assumption | with_reducible refine Below.drew ?_ | with_reducible refine below_drewN ?_ _ | with_reducible refine Below.setCell ?_ (by first | omega | (simp <;> omega)) _ | with_reducible refine Below.alloc ?_ (by first | omega | (simp <;> omega)) _))).1, (World.cell?_of_block (g6.block g2 (by first | omega | (simp <;> omega)) HNE.out)).trans (KS.out _ (by repeat (first | with_reducible exact Below.refl _ _ | with_reducible assumption | with_reducible refine Below.drew ?_ | with_reducible refine below_drewN ?_ _ | with_reducible refine Below.setCell ?_ (by first | omega | (simp <;> omega)) _ | with_reducible refine Below.alloc ?_ (by first | omega | (simp <;> omega)) _))).2.1, (World.cell?_of_block (g6.block g2 (by first | omega | (simp <;> omega)) HNE.out)).trans (KS.out _ (by repeat (first | with_reducible exact Below.refl _ _ | with_reducible assumption | with_reducible refine Below.drew ?_ | with_reducible refine below_drewN ?_ _ | with_reducible refine Below.setCell ?_ (by first | omega | (simp <;> omega)) _ | with_reducible refine Below.alloc ?_ (by first | omega | (simp <;> omega)) _))).2.2⟩; have HS6 := Lib.hid hs6; clear hs6; have hbB := (HB02.out.trans (Below.mono (B := w2.heap.size) (by repeat (first | with_reducible exact Below.refl _ _ | with_reducible assumption | with_reducible refine Below.drew ?_ | with_reducible refine below_drewN ?_ _ | with_reducible refine Below.setCell ?_ (by first | omega | (simp <;> omega)) _ | with_reducible refine Below.alloc ?_ (by first | omega | (simp <;> omega)) _)) HB02.out.size)).trans hb6; clear hb6 g6))
            all_goals
              go_wp2_with fail
              go_roundg g
              case measure => have := HG.out; omega
              case rel =>
                refine ⟨k + 1, a3, c6, A6, acc ++ [((v1 : Int), (v2 : Int), fb)], by have := HK.out; have := HG.out; omega, by go_num, rfl, rfl, ?_, hbB, HA3, HE2⟩
                rw [clc_append]
                exact r2
      · obtain rfl : k = v := by omega
        obtain rfl : gk = 0 := by omega
        have E2 : Hid (rparseM l = some acc) := Lib.hid (by rw [EP.out, HE.out]; simp [rparseN])
        have hclA : ClAt wr A' k c' acc := Reads.of_own hown
        have HO := Lib.hid hown
        clear HE hown
        go_wp2_with fail
        refine (rput_any A' k c' acc _ hclA).mono ?_
        rintro e w2 h2
        cases hr : rightB acc
        · rw [hr] at h2
          obtain ⟨rfl, hb2⟩ := h2
          have E : Hid (rgetM l = ([], 2)) := Lib.hid (by unfold rgetM; rw [E2.out]; simp [hr])
          clear hr hclA
          go_wp2_with fail
          refine bodyPost_ret (v := .tuple #[.slice none 0 0, .int .i64 2]) (by simp [results, Try.results15, go_sem]) rfl ?_
          rw [E.out]
          exact one_none 2 rfl (hb.trans (hb2.mono hb.size))
        · rw [hr] at h2
          obtain ⟨A2, n2, c2, rfl, hown2, hb2⟩ := h2
          have hb02 := hb.trans (hb2.mono hb.size)
          have s1 := conv_reads (P := Try.prog) 30 5 9 Try.underlying30 Try.underlying5 Try.underlying9 (Reads.of_own hown2)
          have s2 := conv_reads (P := Try.prog) 30 5 9 Try.underlying30 Try.underlying5 Try.underlying9 (H.out.next hb02)
          clear hown2 hclA
          cases he : eqB (putM acc) l
          · have E : Hid (rgetM l = ([], 2)) := Lib.hid (by unfold rgetM; rw [E2.out]; simp [he])
            have he2 : ((strOfNums (putM acc)).toList == (strOfNums l).toList) = false := he
            clear hr
            go_wp2_with fail
            refine bodyPost_ret (v := .tuple #[.slice none 0 0, .int .i64 2]) (by simp [results, Try.results15, go_sem]) rfl ?_
            rw [E.out]
            exact one_none 2 rfl hb02
          · have E : Hid (rgetM l = (acc, 0)) := Lib.hid (by unfold rgetM; rw [E2.out]; simp [he, hr])
            have he2 : ((strOfNums (putM acc)).toList == (strOfNums l).toList) = true := he
            clear hr
            go_wp2_with fail
            refine bodyPost_ret (v := .tuple #[.slice A' k c', .int .i64 0]) (by simp [results, Try.results15, go_sem]) rfl ?_
            rw [E.out]
            exact ⟨A', k, c', rfl, own_below HO.out hb2 (Nat.le_refl _), hb02⟩
end Go.Proofs.Ytongakhcmdkeiaa

