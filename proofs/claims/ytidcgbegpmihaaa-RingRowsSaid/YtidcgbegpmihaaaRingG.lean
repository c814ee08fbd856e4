/- Scratch. -/
import Derived.Test.YtidcgbegpmihaaaRingF
import Derived.Deep.DeepCutAuto
import Derived.Deep.LoopGhost
namespace Go.Proofs.Ytidcgbegpmihaaa
open Go.RowKit

theorem sets_no (sp st sz at_ : Int) (A : Option Addr) (n c : Nat) (w : World) (h : at_ < 0 ∨ 1099511627776 < at_) :
    Calls Try.prog 16 #[.agg #[.int .i64 sp, .int .i64 st, .int .i64 sz], .int .i64 at_, .slice A n c] w fun e w' => e = .returned (.slice none 0 0) ∧ Below w.heap.size w w' := by
  by_cases d1 : at_ < 0
  · have e1 := dec_yes d1
    go_enter Try.func16, Try.ntmps16
    go_wp2_with fail
    go_ret
    exact ⟨rfl, by repeat (first | with_reducible exact Below.refl _ _ | with_reducible refine Below.alloc ?_ (by simp <;> omega) _)⟩
  · have e1 := dec_no d1
    have e2 : decide (1099511627776 < at_) = true := dec_yes (by omega)
    clear d1 h
    go_enter Try.func16, Try.ntmps16
    go_wp2_with fail
    go_ret
    exact ⟨rfl, by repeat (first | with_reducible exact Below.refl _ _ | with_reducible refine Below.alloc ?_ (by simp <;> omega) _)⟩
theorem rsets_no (sp st sz at_ : Int) (A : Option Addr) (n c : Nat) (w : World) (h : at_ < 0 ∨ 1099511627776 < at_) :
    Calls Try.prog 18 #[.agg #[.int .i64 sp, .int .i64 st, .int .i64 sz], .int .i64 at_, .slice A n c] w fun e w' => e = .returned (.slice none 0 0) ∧ Below w.heap.size w w' := by
  by_cases d1 : at_ < 0
  · have e1 := dec_yes d1
    go_enter Try.func18, Try.ntmps18
    go_wp2_with fail
    go_ret
    exact ⟨rfl, by repeat (first | with_reducible exact Below.refl _ _ | with_reducible refine Below.alloc ?_ (by simp <;> omega) _)⟩
  · have e1 := dec_no d1
    have e2 : decide (1099511627776 < at_) = true := dec_yes (by omega)
    clear d1 h
    go_enter Try.func18, Try.ntmps18
    go_wp2_with fail
    go_ret
    exact ⟨rfl, by repeat (first | with_reducible exact Below.refl _ _ | with_reducible refine Below.alloc ?_ (by simp <;> omega) _)⟩

theorem bcell {W w1 : World} (hb : Below W.heap.size W w1) : ∀ b o, b < W.heap.size → w1.cell? ⟨b, o, none⟩ = W.cell? ⟨b, o, none⟩ := fun b o h => hb.cell (p := ⟨b, o, none⟩) h
theorem bfroz {W w1 : World} (hb : Below W.heap.size W w1) : ∀ b o, b < W.heap.size → w1.frozen? ⟨b, o, none⟩ = W.frozen? ⟨b, o, none⟩ := fun b o h => hb.frozen (p := ⟨b, o, none⟩) h
theorem bz {W w1 : World} (hb : Below W.heap.size W w1) {g : Nat} : g < W.heap.size → g < w1.heap.size := fun h => Nat.lt_of_lt_of_le h hb.size

theorem set5 {w : World} {g : Nat} {t : TypeId} {a b c d e : Value} (h : w.heap[g]? = some (.cells #[.int .i64 0, .int .i64 0, .int .i64 0, .int .i64 0, .int .i64 0] t (0, 0))) :
    (((((w.setCell ⟨g, 0, none⟩ a).setCell ⟨g, 1, none⟩ b).setCell ⟨g, 2, none⟩ c).setCell ⟨g, 3, none⟩ d).setCell ⟨g, 4, none⟩ e).heap[g]? = some (.cells #[a, b, c, d, e] t (0, 0)) :=
  blk_set (blk_set (blk_set (blk_set (blk_set h 0 a) 1 b) 2 c) 3 d) 4 e
theorem set2 {w : World} {g : Nat} {t : TypeId} {a b : Value} (h : w.heap[g]? = some (.cells #[.int .i64 0, .int .i64 0] t (0, 0))) :
    ((w.setCell ⟨g, 0, none⟩ a).setCell ⟨g, 1, none⟩ b).heap[g]? = some (.cells #[a, b] t (0, 0)) :=
  blk_set (blk_set h 0 a) 1 b
theorem far1 {w : World} {g k i : Nat} {a : Value} {o : Obj} (h : w.heap[k]? = some o) (hk : k ≠ g) : (w.setCell ⟨g, i, none⟩ a).heap[k]? = some o := blk_far h hk a
theorem old_ {w : World} {k : Nat} {o u : Obj} (h : w.heap[k]? = some o) : (w.alloc u).heap[k]? = some o := (blk_old (blk_lt h)).trans h
theorem drew_ {w : World} {k : Nat} {o : Obj} (h : w.heap[k]? = some o) : w.drew.heap[k]? = some o := h

set_option maxHeartbeats 2000000 in
set_option maxRecDepth 20000 in
theorem rsets_any (sp st sz at_ : Int) (A : Option Addr) (n c : Nat) (l : List Int) (w : World) (h : Reads w w.heap.size 1 A n c (cells .i64 l)) (hn : n ≤ 1000) (h0 : 0 ≤ at_) (h1 : at_ ≤ 1099511627776) :
    Calls Try.prog 18 #[.agg #[.int .i64 sp, .int .i64 st, .int .i64 sz], .int .i64 at_, .slice A n c] w fun e w' =>
      ∃ A' c' q, e = .returned (.slice A' q c') ∧ w'.ownsRow w.heap.size 28 2 (.slice A' q c') q (pcells (setsM sp st sz at_ l)) ∧ Below w.heap.size w w' := by
  obtain ⟨i0, hi0, hy0, hy1, hy2⟩ := info_parts info28
  have d1 : decide (at_ < 0) = false := dec_no (by omega)
  have d2 : decide (1099511627776 < at_) = false := dec_no (by omega)
  go_enter Try.func18, Try.ntmps18
  go_wp2_with fail
  go_loopg [7, 9, 10, 11, 12, 13] n (fun kk v i _ _ _ _ wr => ∃ (k : Nat) (A' : Option Addr) (c' : Nat) (s u0 u1 u2 u3 : Int) (ps : List (Int × Int)) (cnt : Nat), k ≤ n ∧ kk = n - k ∧ i = .int .i64 (k : Nat) ∧ v = .slice A' k c' ∧
      wr.ownsRow (w.heap.size + 2) 28 2 (.slice A' k c') k (pcells ps) ∧ Below w.heap.size w wr ∧
      wr.heap[w.heap.size]? = some (.cells #[.int .i64 sp, .int .i64 st, .int .i64 sz] 23 (0, 0)) ∧ wr.heap[w.heap.size + 1]? = some (.cells #[.int .i64 s, .int .i64 u0, .int .i64 u1, .int .i64 u2, .int .i64 u3] 26 (0, 0)) ∧
      runM sp st sz zF (at_ + 1) (l.take k) = some ((s, u0, u1, u2, u3), ps, cnt))
  case atStart =>
    refine ⟨0, none, 0, 0, 0, 0, 0, 0, [], 0, Nat.zero_le _, rfl, rfl, rfl, World.ownsRow_nil _ _ _ _, ?_, ?_, ?_, rfl⟩
    · exact ((Below.refl _ _).alloc (Nat.le_refl _) _).alloc (by simp) _
    · rw [blk_old (by simp)]; exact blk_new rfl
    · exact blk_new (by simp)
  case round =>
    obtain ⟨k, A', c', s, u0, u1, u2, u3, ps, cnt, hk, hgk, rfl, rfl, hown, hb, hc0, hc1, hrun⟩ := hrel
    have HR := Lib.hid hrun
    have HG := Lib.hid hgk
    clear hrun hgk
    by_cases hlt : k < n
    · obtain ⟨b, o, x, rfl, hbb, hx, hc⟩ := (h.below hb).at_ hlt
      have HX := Lib.hid hx
      clear hx
      have f0 := blk_cell hc0
      have f1 := blk_cell hc1
      have hki : (k : Int) < (n : Int) := by omega
      have hki0 : (0 : Int) ≤ (k : Int) := by omega
      have C0 : wr.cell? ⟨w.heap.size, 0, none⟩ = some (.int .i64 sp) ∧ wr.cell? ⟨w.heap.size, 1, none⟩ = some (.int .i64 st) ∧ wr.cell? ⟨w.heap.size, 2, none⟩ = some (.int .i64 sz) := ⟨f0 0, f0 1, f0 2⟩
      have C1 : wr.cell? ⟨w.heap.size + 1, 0, none⟩ = some (.int .i64 s) ∧ wr.cell? ⟨w.heap.size + 1, 1, none⟩ = some (.int .i64 u0) ∧ wr.cell? ⟨w.heap.size + 1, 2, none⟩ = some (.int .i64 u1) ∧ wr.cell? ⟨w.heap.size + 1, 3, none⟩ = some (.int .i64 u2) ∧ wr.cell? ⟨w.heap.size + 1, 4, none⟩ = some (.int .i64 u3) := ⟨f1 0, f1 1, f1 2, f1 3, f1 4⟩
      obtain ⟨C00, C01, C02⟩ := C0
      obtain ⟨C10, C11, C12, C13, C14⟩ := C1
      clear f0 f1
      have hz := blk_lt hc1
      have hz0 : w.heap.size < wr.heap.size := by omega
      have hz1 : b < wr.heap.size := by have := hb.size; omega
      have ks : ∀ w' : World, Below wr.heap.size wr w' → (w'.cell? ⟨w.heap.size, 0, none⟩ = some (.int .i64 sp) ∧ w'.cell? ⟨w.heap.size, 1, none⟩ = some (.int .i64 st) ∧ w'.cell? ⟨w.heap.size, 2, none⟩ = some (.int .i64 sz) ∧
            w'.cell? ⟨w.heap.size + 1, 0, none⟩ = some (.int .i64 s) ∧ w'.cell? ⟨w.heap.size + 1, 1, none⟩ = some (.int .i64 u0) ∧ w'.cell? ⟨w.heap.size + 1, 2, none⟩ = some (.int .i64 u1) ∧ w'.cell? ⟨w.heap.size + 1, 3, none⟩ = some (.int .i64 u2) ∧ w'.cell? ⟨w.heap.size + 1, 4, none⟩ = some (.int .i64 u3) ∧
            w'.cell? ⟨b, o + k, none⟩ = some (.int .i64 x)) := fun w' hb => ⟨(hb.cell (p := ⟨w.heap.size, 0, none⟩) hz0).trans C00, (hb.cell (p := ⟨w.heap.size, 1, none⟩) hz0).trans C01, (hb.cell (p := ⟨w.heap.size, 2, none⟩) hz0).trans C02, (hb.cell (p := ⟨w.heap.size + 1, 0, none⟩) hz).trans C10, (hb.cell (p := ⟨w.heap.size + 1, 1, none⟩) hz).trans C11, (hb.cell (p := ⟨w.heap.size + 1, 2, none⟩) hz).trans C12, (hb.cell (p := ⟨w.heap.size + 1, 3, none⟩) hz).trans C13, (hb.cell (p := ⟨w.heap.size + 1, 4, none⟩) hz).trans C14, (hb.cell (p := ⟨b, o + k, none⟩) hz1).trans hc⟩
      have KS := Lib.hid ks
      clear ks
      go_upto_region 8 with fail
      go_cut [10, 11, 12, 13] (fun s10 s11 s12 s13 wc => ∃ (B10 B11 : Nat) (g0 g1 g2 g3 g4 p0 p1 : Int) (nx ok : Bool), s10 = .pointer (some ⟨B10, 0, none⟩) ∧ s11 = .pointer (some ⟨B11, 0, none⟩) ∧ s12 = .bool nx ∧ s13 = .bool ok ∧
          putM sp st sz s u0 u1 u2 u3 (at_ + 1 + k) x = ((g0, g1, g2, g3, g4), (p0, p1), nx, ok) ∧ wc.heap[B10]? = some (.cells #[.int .i64 g0, .int .i64 g1, .int .i64 g2, .int .i64 g3, .int .i64 g4] 26 (0, 0)) ∧ wc.heap[B11]? = some (.cells #[.int .i64 p0, .int .i64 p1] 28 (0, 0)) ∧ Below wr.heap.size wr wc ∧ wr.heap.size ≤ B10 ∧ wr.heap.size ≤ B11)
      case first =>
        have w1 : IntKind.i64.wrap (at_ + 1) = at_ + 1 := IntWalk.i64_in _ (by omega)
        have w2 : IntKind.i64.wrap (at_ + 1 + (k : Int)) = at_ + 1 + (k : Int) := IntWalk.i64_in _ (by omega)
        clear h hown hb hc0 hc1 HX HR HG h0 h1 d1 d2 hn hk hbb hlt
        go_region_held3 (fun w' => w'.cell? ⟨w.heap.size, 0, none⟩ = some (.int .i64 sp) ∧ w'.cell? ⟨w.heap.size, 1, none⟩ = some (.int .i64 st) ∧ w'.cell? ⟨w.heap.size, 2, none⟩ = some (.int .i64 sz) ∧
            w'.cell? ⟨w.heap.size + 1, 0, none⟩ = some (.int .i64 s) ∧ w'.cell? ⟨w.heap.size + 1, 1, none⟩ = some (.int .i64 u0) ∧ w'.cell? ⟨w.heap.size + 1, 2, none⟩ = some (.int .i64 u1) ∧ w'.cell? ⟨w.heap.size + 1, 3, none⟩ = some (.int .i64 u2) ∧ w'.cell? ⟨w.heap.size + 1, 4, none⟩ = some (.int .i64 u3) ∧
            w'.cell? ⟨b, o + k, none⟩ = some (.int .i64 x))
          (exact KS.out _ (by repeat (first | with_reducible exact Below.refl _ _ | with_reducible assumption | with_reducible refine Below.drew ?_ | with_reducible refine below_drewN ?_ _ | with_reducible refine Below.setCell ?_ (by first | omega | (simp <;> omega)) _ | with_reducible refine Below.alloc ?_ (by first | omega | (simp <;> omega)) _)))
          (first | (go_at_call 9; refine (refput_any _ _ _ _ _ _ _ _ _ _ _).mono ?_; rintro e w1 ⟨g0, g1, g2, g3, g4, p0, p1, nx, ok, rfl, hM, hb1⟩; have HM := Lib.hid hM; have hbW := below_next (v := wr) (by repeat (first | with_reducible exact Below.refl _ _ | with_reducible assumption | with_reducible refine Below.drew ?_ | with_reducible refine below_drewN ?_ _ | with_reducible refine Below.setCell ?_ (by first | omega | (simp <;> omega)) _ | with_reducible refine Below.alloc ?_ (by first | omega | (simp <;> omega)) _)) hb1; have hsW := hbW.size; try (have za := (hb1.block (wr.heap.size) (by first | (simp; done) | (simp; omega))).trans (by first | exact blk_new (by first | (simp; done) | omega) | exact (blk_old (by first | (simp; done) | (simp; omega))).trans (blk_new (by first | rfl | (simp; done) | omega))); have za0 := blk_cell za 0; have za1 := blk_cell za 1; have za2 := blk_cell za 2; have za3 := blk_cell za 3; have za4 := blk_cell za 4; have zaf0 := blk_frozen za 0; have zaf1 := blk_frozen za 1; have zaf2 := blk_frozen za 2; have zaf3 := blk_frozen za 3; have zaf4 := blk_frozen za 4; have zal := blk_lt za; have zaH := Lib.hid za; clear za); try (have zb := (hb1.block (wr.heap.size + 1) (by first | (simp; done) | (simp; omega))).trans (by first | exact blk_new (by first | (simp; done) | omega) | exact (blk_old (by first | (simp; done) | (simp; omega))).trans (blk_new (by first | rfl | (simp; done) | omega))); have zb0 := blk_cell zb 0; have zb1 := blk_cell zb 1; have zb2 := blk_cell zb 2; have zb3 := blk_cell zb 3; have zb4 := blk_cell zb 4; have zbf0 := blk_frozen zb 0; have zbf1 := blk_frozen zb 1; have zbf2 := blk_frozen zb 2; have zbf3 := blk_frozen zb 3; have zbf4 := blk_frozen zb 4; have zbl := blk_lt zb; have zbH := Lib.hid zb; clear zb); have HB1 := Lib.hid hb1; clear hM hb1))
        all_goals (go_wp2_with fail; go_meet; exact ⟨_, _, _, _, _, _, _, _, _, _, _, rfl, rfl, rfl, rfl, HM.out, (by repeat (first | with_reducible exact zaH.out | with_reducible exact zbH.out | with_reducible exact blk_new (by first | rfl | (simp; done) | omega) | with_reducible refine drew_ ?_ | with_reducible refine set5 ?_ | with_reducible refine set2 ?_ | with_reducible refine old_ ?_ | with_reducible refine far1 ?_ (by first | omega | (simp; done)))), (by repeat (first | with_reducible exact zaH.out | with_reducible exact zbH.out | with_reducible exact blk_new (by first | rfl | (simp; done) | omega) | with_reducible refine drew_ ?_ | with_reducible refine set5 ?_ | with_reducible refine set2 ?_ | with_reducible refine old_ ?_ | with_reducible refine far1 ?_ (by first | omega | (simp; done)))), (by repeat (first | with_reducible exact Below.refl _ _ | with_reducible assumption | with_reducible refine Below.drew ?_ | with_reducible refine below_drewN ?_ _ | with_reducible refine Below.setCell ?_ (by first | omega | (simp <;> omega)) _ | with_reducible refine Below.alloc ?_ (by first | omega | (simp <;> omega)) _)), by first | omega | (simp <;> omega), by first | omega | (simp <;> omega)⟩)
      case rest =>
        obtain ⟨B10, B11, g0, g1, g2, g3, g4, p0, p1, nx, ok, rfl, rfl, rfl, rfl, hM, k10, k11, hbc, l10, l11⟩ := hcut
        have HM := Lib.hid hM
        have hs := hbc.size
        have k0 := (hbc.block _ hz0).trans hc0
        have k1 := (hbc.block _ hz).trans hc1
        have hown1 := own_below hown hbc (Nat.le_refl _)
        have hbx := hb.trans (hbc.mono hb.size)
        have nb : some B10 ≠ (Value.slice A' k c').ownBlock := by intro e; have := (own_lt hown e.symm).2; omega
        clear hM hc hc0 hc1 hown hb KS C00 C01 C02 C10 C11 C12 C13 C14 hbc
        cases ok
        · go_wp2_with fail
          go_ret
          have hstop := runM_stop HX.out HR.out (q := at_ + 1) HM.out
          refine ⟨none, 0, 0, rfl, ?_, hbx⟩
          have : setsM sp st sz at_ l = [] := by unfold setsM; rw [hstop]; split <;> rfl
          rw [this]
          exact World.ownsRow_nil _ _ _ _
        · have f11 := blk_cell k11
          have z10 := blk_lt k10
          have zx := blk_lt k1
          have hkx := hk
          go_wp2_with (at_builtin; go_loud (refine wpList_append_new wc #[.int .i64 p0, .int .i64 p1] 28 rfl (.tmp 44) (.tmp 46) 39 rfl (w.heap.size + 2) 28 i0 _ 2 16 Try.underlying39 hi0 hy0 hy1 hy2 rfl (by decide) (.slice A' k c') k _ rfl hown1 1 rfl rfl (by intro u hu; simp at hu; rcases hu with rfl | rfl <;> rfl) (by simp only [maxLen]; omega) (by omega) (by omega) ?_; intro A3 c3 w3 r1 r2 r3 r4; have m10 := (r2.block _ z10 nb).trans k10; have m1 := (r3.block _ (by omega)).trans k1; have m0 := (r3.block _ (by omega)).trans k0; have q10 := blk_cell m10; have q1c := blk_cell m1; have q1f := blk_frozen m1; have q1z := blk_lt m1; have hb3 := hbx.trans (r3.mono (by omega)); have M1 := Lib.hid m1; have M0 := Lib.hid m0; have M3 := Lib.hid r1; clear r1 r2 r3 r4 m10 m1 m0))
          go_roundg (n - (k + 1))
          case measure => have := HG.out; omega
          case rel =>
            refine ⟨k + 1, A3, c3, g0, g1, g2, g3, g4, ps ++ [(p0, p1)], _, by omega, rfl, by go_num, rfl, ?_, ?_, ?_, ?_, runM_step HX.out HR.out HM.out⟩
            · rw [pcells_snoc]
              exact own_far (own_far (own_far (own_far (own_far M3.out (by simp) _) (by simp) _) (by simp) _) (by simp) _) (by simp) _
            · refine Below.setCell (Below.setCell (Below.setCell (Below.setCell (Below.setCell hb3 (by simp) _) (by simp) _) (by simp) _) (by simp) _) (by simp) _
            · exact blk_far (blk_far (blk_far (blk_far (blk_far M0.out (by simp) _) (by simp) _) (by simp) _) (by simp) _) (by simp) _
            · exact blk_set (blk_set (blk_set (blk_set (blk_set M1.out 0 _) 1 _) 2 _) 3 _) 4 _
    · obtain rfl : k = n := by omega
      go_wp2_with fail
      go_ret
      refine ⟨A', c', k, rfl, ?_, hb⟩
      have hl := h.length
      have hr := HR.out
      rw [List.take_of_length_le (by omega)] at hr
      have : setsM sp st sz at_ l = ps := by unfold setsM; rw [hr, if_pos ⟨h0, h1⟩]
      rw [this]
      exact own_more hown (by omega)
end Go.Proofs.Ytidcgbegpmihaaa
