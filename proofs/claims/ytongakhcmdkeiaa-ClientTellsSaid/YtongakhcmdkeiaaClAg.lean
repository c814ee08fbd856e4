/- The law ClientTells: the walk. Printed by gen_tells.py. Conditions: those that each theorem states. -/
import Derived.Test.YtongakhcmdkeiaaClAf
namespace Go.Proofs.Ytongakhcmdkeiaa
open Go.RowKit

theorem PutRes.both {w w' : World} {R : Option (List Int)} {e : Ending} (h : PutRes w R e w') : ∃ A' n' c', e = .returned (.tuple #[.slice A' n' c', .int .i64 (if R.isSome then 0 else 1)]) ∧ Reads w' w'.heap.size 1 A' n' c' (cells .u8 (R.getD [])) ∧ Below w.heap.size w w' := by
  cases R with
  | none =>
    obtain ⟨rfl, hb⟩ := h
    exact ⟨none, 0, 0, rfl, Reads.nil_ _ _ _, hb⟩
  | some l =>
    obtain ⟨A', n', c', rfl, h2, h3⟩ := h
    exact ⟨A', n', c', rfl, Reads.of_own h2, h3⟩
theorem OneRes.cl {w w' : World} {R : List Cl × Int} {e : Ending} (h : OneRes w R e w') : ∃ A' c', e = .returned (.tuple #[.slice A' R.1.length c', .int .i64 R.2]) ∧ ClAt w' A' R.1.length c' R.1 ∧ Below w.heap.size w w' := by
  obtain ⟨A', n', c', rfl, h2, h3⟩ := h
  have hl := own_cl h2
  rw [hl]
  exact ⟨A', c', rfl, Reads.of_own h2, h3⟩
theorem RactRes.cl {w w' : World} {R : List Cl × Int} {e : Ending} (h : RactRes w R e w') : ∃ A' c', e = .returned (.tuple #[.slice A' R.1.length c', .int .i64 R.2]) ∧ ClAt w' A' R.1.length c' R.1 ∧ Below w.heap.size w w' := by
  obtain ⟨A', n', c', rfl, h2, _, h3⟩ := h
  have hl := cl_length h2
  rw [hl]
  exact ⟨A', c', rfl, h2, h3⟩
theorem fidx_find (id : Int) : ∀ L : List Cl, (fidx id L = none ∧ findC id L = none) ∨ ∃ k x, fidx id L = some k ∧ L[k]? = some x ∧ findC id L = some x
  | [] => .inl ⟨rfl, rfl⟩
  | (i, p, f) :: r => by
    by_cases hi : i = id
    · exact .inr ⟨0, (i, p, f), by simp [fidx, hi], rfl, by simp [findC, hi]⟩
    · rcases fidx_find id r with ⟨h1, h2⟩ | ⟨k, x, h1, h2, h3⟩
      · exact .inl ⟨by simp [fidx, hi, h1], by simp [findC, hi, h2]⟩
      · exact .inr ⟨k + 1, x, by simp [fidx, hi, h1], by simpa using h2, by simp [findC, hi, h3]⟩

theorem FindRes.no {w w' : World} {id : Int} {L : List Cl} {e : Ending} (h : FindRes w id L e w') (h2 : findC id L = none) : e = .returned (.tuple #[.agg #[.int .i64 0, .int .i64 0, .bool false], .bool false]) ∧ Below w.heap.size w w' := by
  obtain ⟨rfl, hb⟩ := h
  rw [h2]
  exact ⟨rfl, hb⟩
theorem FindRes.yes {w w' : World} {id i p : Int} {f : Bool} {L : List Cl} {e : Ending} (h : FindRes w id L e w') (h2 : findC id L = some (i, p, f)) : e = .returned (.tuple #[.agg #[.int .i64 i, .int .i64 p, .bool f], .bool true]) ∧ Below w.heap.size w w' := by
  obtain ⟨rfl, hb⟩ := h
  rw [h2]
  exact ⟨rfl, hb⟩
theorem fidI_none {id : Int} {L : List Cl} (h : fidx id L = none) : fidI id L = -1 := by unfold fidI; rw [h]
theorem fidI_some {id : Int} {L : List Cl} {k : Nat} (h : fidx id L = some k) : fidI id L = (k : Int) := by unfold fidI; rw [h]

set_option maxRecDepth 20000 in
set_option maxHeartbeats 8000000 in
theorem tells_law (A B : Option Addr) (n c m d : Nat) (L : List Cl) (l : List Int) (a id pos : Int) (off : Bool) (w : World) (h1 : ClAt w A n c L) (h2 : Reads w w.heap.size 1 B m d (cells .u8 l)) (hby : IsBytes l)
    (hA : A = none ∨ (∃ b o, A = some ⟨b, o, none⟩) ∨ (∃ ad, A = some ad ∧ c = 0)) :
    Calls Try.prog 4 #[.slice A n c, .slice B m d, .agg #[.int .i64 a, .int .i64 id, .int .i64 pos, .bool off]] w fun e w' => e = .returned (.bool true) ∧ Below w.heap.size w w' := by
  have hbig1 := h1.big
  have hbig2 := h2.big
  have hb0 : Below w.heap.size w (w.alloc (.cells #[.int .i64 a, .int .i64 id, .int .i64 pos, .bool off] 29)) := (Below.refl _ _).alloc (Nat.le_refl _) _
  by_cases h20 : 20 < n
  · have d1 : decide (20 < n) = true := dec_yes h20
    go_enter Try.func4, Try.ntmps4
    go_wp2_with fail
    refine (known_any _).mono ?_
    rintro e w1 ⟨rfl, hb1⟩
    go_wp2_with fail
    go_ret
    exact ⟨rfl, hb0.trans (hb1.mono hb0.size)⟩
  by_cases h200 : 200 < m
  · have d1 : decide (20 < n) = false := dec_no h20
    have d2 : decide (200 < m) = true := dec_yes h200
    go_enter Try.func4, Try.ntmps4
    go_wp2_with fail
    refine (known_any _).mono ?_
    rintro e w1 ⟨rfl, hb1⟩
    go_wp2_with fail
    go_ret
    exact ⟨rfl, hb0.trans (hb1.mono hb0.size)⟩
  have hn : n ≤ 20 := by omega
  have hm : m ≤ 200 := by omega
  have H1 := Lib.hid h1
  have H2 := Lib.hid h2
  have HBY := Lib.hid hby
  have HA := Lib.hid hA
  obtain ⟨R, hR⟩ : ∃ R, (if rightB L then some (putM L) else none) = R := ⟨_, rfl⟩
  obtain ⟨G, hG⟩ : ∃ G, getM l = G := ⟨_, rfl⟩
  obtain ⟨O, hO⟩ : ∃ O, oneM L a id pos off = O := ⟨_, rfl⟩
  have HR := Lib.hid hR
  have HG := Lib.hid hG
  have HO := Lib.hid hO
  clear h20 h200 h1 h2 hby hA hR hG hO hbig1 hbig2
  go_enter Try.func4, Try.ntmps4
  go_wp2_with fail
  refine (put_any A n c L _ (H1.out.next hb0)).mono ?_
  rw [HR.out]
  rintro e w1 hp
  obtain ⟨A1, n1, c1, rfl, rd1, hb1⟩ := hp.both
  have k1 : w1.heap[w.heap.size]? = some (.cells #[.int .i64 a, .int .i64 id, .int .i64 pos, .bool off] 29 (0, 0)) := (hb1.block _ (by simp)).trans (blk_new rfl)
  have hb01 := below_next (v := w) hb0 hb1
  obtain ⟨pe, hpe⟩ : ∃ pe : Int, (if R.isSome then (0 : Int) else 1) = pe := ⟨_, rfl⟩
  have HPE := Lib.hid hpe
  rw [hpe]
  obtain ⟨pb, hpb⟩ : ∃ pb, R.getD [] = pb := ⟨_, rfl⟩
  have HPB := Lib.hid hpb
  rw [hpb] at rd1
  have K1 := Lib.hid k1
  clear hp hpe hpb hb1 k1
  go_wp2_with fail
  refine (rput_any A n c L _ (H1.out.next hb01)).mono ?_
  rw [HR.out]
  rintro e w2 hp
  obtain ⟨A2, n2, c2, rfl, rd2, hb2⟩ := hp.both
  have K2 := Lib.hid ((hb2.block _ (blk_lt K1.out)).trans K1.out)
  have hb02 := below_next (v := w) hb01 hb2
  rw [HPE.out]
  rw [HPB.out] at rd2
  have RD1 := Lib.hid (rd1.next hb2)
  have RD2 := Lib.hid rd2
  clear hp rd1 rd2 hb2
  go_wp2_with fail
  refine (get_any B m d l _ (H2.out.next hb02) HBY.out (by omega)).mono ?_
  rw [HG.out]
  rintro e w3 hp
  obtain ⟨A3, c3, rfl, cl3, hb3⟩ := hp.cl
  have K3 := Lib.hid ((hb3.block _ (blk_lt K2.out)).trans K2.out)
  have hb03 := below_next (v := w) hb02 hb3
  have RD1' := Lib.hid (RD1.out.next hb3)
  have RD2' := Lib.hid (RD2.out.next hb3)
  have CL3 := Lib.hid cl3
  clear hp cl3 hb3 RD1 RD2
  obtain ⟨ge, hge⟩ : ∃ ge : Int, G.2 = ge := ⟨_, rfl⟩
  have HGE := Lib.hid hge
  rw [hge]
  clear hge
  go_wp2_with fail
  refine (rget_any B m d l _ (H2.out.next hb03) HBY.out (by omega)).mono ?_
  rw [rget_get HBY.out, HG.out]
  rintro e w4 hp
  obtain ⟨A4, c4, rfl, cl4, hb4⟩ := hp.cl
  rw [HGE.out]
  have k4 := (hb4.block _ (blk_lt K3.out)).trans K3.out
  have f4 := blk_cell k4
  have z4 := blk_lt k4
  have K4 := Lib.hid k4
  have hb04 := below_next (v := w) hb03 hb4
  have RD1 := Lib.hid (RD1'.out.next hb4)
  have RD2 := Lib.hid (RD2'.out.next hb4)
  have CL3' := Lib.hid (CL3.out.next hb4)
  have CL4 := Lib.hid cl4
  clear hp cl4 hb4 RD1' RD2' CL3 k4
  go_wp2_with fail
  refine (one_any A n c L a id pos off _ (H1.out.next hb04)).mono ?_
  rw [HO.out]
  rintro e w5 hp
  obtain ⟨A5, c5, rfl, cl5, hb5⟩ := hp.cl
  have k5 := (hb5.block _ (blk_lt K4.out)).trans K4.out
  have hb05 := below_next (v := w) hb04 hb5
  have RD1' := Lib.hid (RD1.out.next hb5)
  have RD2' := Lib.hid (RD2.out.next hb5)
  have CL3 := Lib.hid (CL3'.out.next hb5)
  have CL4' := Lib.hid (CL4.out.next hb5)
  have CL5 := Lib.hid cl5
  obtain ⟨oe, hoe⟩ : ∃ oe : Int, O.2 = oe := ⟨_, rfl⟩
  have HOE := Lib.hid hoe
  rw [hoe]
  have z5 := blk_lt k5
  have ks : ∀ W' : World, Below w5.heap.size w5 W' → (W'.cell? ⟨w.heap.size, 0, none⟩ = some (.int .i64 a) ∧ W'.cell? ⟨w.heap.size, 1, none⟩ = some (.int .i64 id) ∧ W'.cell? ⟨w.heap.size, 2, none⟩ = some (.int .i64 pos) ∧ W'.cell? ⟨w.heap.size, 3, none⟩ = some (.bool off)) := fun W' hb => ⟨(hb.cell (p := ⟨w.heap.size, 0, none⟩) z5).trans (blk_cell k5 0), (hb.cell (p := ⟨w.heap.size, 1, none⟩) z5).trans (blk_cell k5 1), (hb.cell (p := ⟨w.heap.size, 2, none⟩) z5).trans (blk_cell k5 2), (hb.cell (p := ⟨w.heap.size, 3, none⟩) z5).trans (blk_cell k5 3)⟩
  have KS := Lib.hid ks
  have K5 := Lib.hid k5
  have HB05 := Lib.hid hb05
  have H15 := Lib.hid (H1.out.next hb05)
  clear hp cl5 hb5 RD1 RD2 CL3' CL4 hoe k5 ks f4 z4 hb0 hb01 hb02 hb03 hb04 hb05
  go_wp2_with fail
  go_cut [17, 18] (fun s17 s18 wc => ∃ (A6 : Option Addr) (c6 : Nat), s17 = .slice A6 O.1.length c6 ∧ s18 = .int .i64 oe ∧ ClAt wc A6 O.1.length c6 O.1 ∧ Below w5.heap.size w5 wc)
  case first =>
    clear RD1' RD2' CL3 CL4' CL5 K5 HB05 K1 K2 K3 K4 H1 H2 HBY HR HG HPE HPB HGE
    go_region_held3 (fun W' => W'.cell? ⟨w.heap.size, 0, none⟩ = some (.int .i64 a) ∧ W'.cell? ⟨w.heap.size, 1, none⟩ = some (.int .i64 id) ∧ W'.cell? ⟨w.heap.size, 2, none⟩ = some (.int .i64 pos) ∧ W'.cell? ⟨w.heap.size, 3, none⟩ = some (.bool off))
      (exact KS.out _ (by repeat (first | with_reducible exact Below.refl _ _ | with_reducible assumption | with_reducible refine Below.drew ?_ | with_reducible refine below_drewN ?_ _ | with_reducible refine Below.setCell ?_ (by first | omega | (simp <;> omega)) _ | with_reducible refine Below.alloc ?_ (by first | omega | (simp <;> omega)) _)))
      (first
        | (go_at_call 17; refine (kind_any a id pos off _).mono ?_; rintro e wn ⟨rfl, rfl⟩)
        | (go_at_call 16; refine (ract_any A n c L (kindM a) id pos off _ (H15.out.next (by repeat (first | with_reducible exact Below.refl _ _ | with_reducible assumption | with_reducible refine Below.drew ?_ | with_reducible refine below_drewN ?_ _ | with_reducible refine Below.setCell ?_ (by first | omega | (simp <;> omega)) _ | with_reducible refine Below.alloc ?_ (by first | omega | (simp <;> omega)) _))) HA.out).mono ?_; rintro e wn hra; rw [one_kind, HO.out] at hra; obtain ⟨A6, c6, rfl, cl6, hb6⟩ := hra.cl; rw [HOE.out]; have hbN := below_next (v := w5) (by repeat (first | with_reducible exact Below.refl _ _ | with_reducible assumption | with_reducible refine Below.drew ?_ | with_reducible refine below_drewN ?_ _ | with_reducible refine Below.setCell ?_ (by first | omega | (simp <;> omega)) _ | with_reducible refine Below.alloc ?_ (by first | omega | (simp <;> omega)) _)) hb6; have hsN := hbN.size; have CL6 := Lib.hid cl6; clear hra cl6 hb6))
    all_goals (go_wp2_with fail; go_meet; exact ⟨A6, c6, rfl, rfl, CL6.out.next (by repeat (first | with_reducible exact Below.refl _ _ | with_reducible assumption | with_reducible refine Below.drew ?_ | with_reducible refine below_drewN ?_ _ | with_reducible refine Below.setCell ?_ (by first | omega | (simp <;> omega)) _ | with_reducible refine Below.alloc ?_ (by first | omega | (simp <;> omega)) _)), (by repeat (first | with_reducible exact Below.refl _ _ | with_reducible assumption | with_reducible refine Below.drew ?_ | with_reducible refine below_drewN ?_ _ | with_reducible refine Below.setCell ?_ (by first | omega | (simp <;> omega)) _ | with_reducible refine Below.alloc ?_ (by first | omega | (simp <;> omega)) _))⟩)
  case rest =>
    obtain ⟨A6, c6, rfl, rfl, cl6, hbc⟩ := hcut
    obtain ⟨w6, rfl⟩ : ∃ v, v = wc := ⟨wc, rfl⟩
    have s1 := conv_reads (P := Try.prog) 30 5 9 Try.underlying30 Try.underlying5 Try.underlying9 (RD1'.out.next hbc)
    have s2 := conv_reads (P := Try.prog) 30 5 9 Try.underlying30 Try.underlying5 Try.underlying9 (RD2'.out.next hbc)
    have q1 : (pe != pe) = false := by simp
    have q2 : (ge != ge) = false := by simp
    have q3 : (oe != oe) = false := by simp
    have HBC := Lib.hid hbc
    have CL6 := Lib.hid cl6
    clear RD1' RD2' cl6 hbc
    go_wp2_with fail
    refine (same_any A3 A4 G.1.length c3 c4 G.1 _ (CL3.out.next HBC.out) (CL4'.out.next HBC.out)).mono ?_
    rintro e w7 ⟨rfl, hb7⟩
    have hb57 := below_next (v := w5) HBC.out hb7
    go_wp2_with fail
    refine (same_any A5 A6 O.1.length c5 c6 O.1 _ (CL5.out.next hb57) (CL6.out.next hb7)).mono ?_
    rintro e w8 ⟨rfl, hb8⟩
    have hb58 := below_next (v := w5) hb57 hb8
    have HB58 := Lib.hid hb58
    clear s1 s2 q1 q2 q3 hb57 hb7 hb8 hb58
    go_wp2_with fail
    refine (slow_any A n c L _ (H15.out.next HB58.out)).mono ?_
    rintro e w9 ⟨rfl, hb9⟩
    have hb59 := below_next (v := w5) HB58.out hb9
    obtain ⟨sm, hsm⟩ : ∃ sm, (slowM L).1 = sm := ⟨_, rfl⟩
    obtain ⟨sb, hsb⟩ : ∃ sb, (slowM L).2 = sb := ⟨_, rfl⟩
    obtain ⟨rb, hrb⟩ : ∃ rb, rightB L = rb := ⟨_, rfl⟩
    have HSM := Lib.hid hsm
    have HSB := Lib.hid hsb
    have HRB := Lib.hid hrb
    rw [hsm, hsb]
    clear hsm hsb hrb hb9 CL3 CL4' CL5 CL6 HBC HR HG HO HPE HPB HGE HOE K1 K2 K3 K4
    go_wp2_with fail
    refine (rslow_any A n c L _ (H15.out.next hb59)).mono ?_
    rw [HSM.out, HSB.out]
    rintro e w10 ⟨rfl, rfl⟩
    have k9 := (KS.out _ hb59).2.1
    have q1 : (sm == sm) = true := by simp
    have q2 : (sb == sb) = true := by simp
    have q3 : (rb == rb) = true := by simp
    rcases fidx_find id L with ⟨h1, h2⟩ | ⟨k, ⟨ci, cp, cf⟩, h1, hx, h2⟩
    · skip
      go_wp2_with fail
      refine (find_any A n c L id _ (H15.out.next hb59)).mono ?_
      rintro e w13 hf
      obtain ⟨rfl, hb13⟩ := hf.no h2
      have hb5d := below_next (v := w5) hb59 hb13
      have k13 := (KS.out _ hb5d).2.1
      have z13 : w.heap.size < w13.heap.size := Nat.lt_of_lt_of_le z5 hb5d.size
      clear hf hb13
      go_wp2_with fail
      have hbx : Below w5.heap.size w5 (w13.alloc (.cells #[.int .i64 0, .int .i64 0, .bool false] 42)) := Below.alloc hb5d hb5d.size _
      refine (rfind_any A n c L id _ (H15.out.next hbx)).mono ?_
      have hneg := fidI_none h1
      obtain ⟨kk, hkk⟩ : ∃ kk, fidI id L = kk := ⟨_, rfl⟩
      rw [hkk]
      have g1 : decide ((0 : Int) ≤ kk) = false := dec_no (by omega)
      have g2 : decide (kk < 0) = true := dec_yes (by omega)
      clear hkk hneg
      rintro e w14 ⟨rfl, rfl⟩
      generalize hW : World.alloc w13 _ = W3
      rw [hW] at hbx
      have kW : W3.heap[w13.heap.size]? = some (.cells #[.int .i64 0, .int .i64 0, .bool false] 42 (0, 0)) := by rw [← hW]; exact blk_new rfl
      have zW := blk_lt kW
      have HW1 := Lib.hid (H15.out.next hbx)
      have HBW : Hid (Below w.heap.size w W3) := Lib.hid (HB05.out.trans (hbx.mono HB05.out.size))
      clear hW hbx hb59 hb5d k9 k13 z13 h1 h2 z5 H1 H15 HB05 HB58 K5 KS
      go_wp2_with fail
      have ks : ∀ W' : World, Below W3.heap.size W3 W' → (W'.cell? ⟨w13.heap.size, 0, none⟩ = some (.int .i64 0) ∧ W'.cell? ⟨w13.heap.size, 1, none⟩ = some (.int .i64 0) ∧ W'.cell? ⟨w13.heap.size, 2, none⟩ = some (.bool false)) := fun W' hb => ⟨(hb.cell (p := ⟨w13.heap.size, 0, none⟩) zW).trans (blk_cell kW 0), (hb.cell (p := ⟨w13.heap.size, 1, none⟩) zW).trans (blk_cell kW 1), (hb.cell (p := ⟨w13.heap.size, 2, none⟩) zW).trans (blk_cell kW 2)⟩
      have KS := Lib.hid ks
      clear ks kW
      refine wp_region_held_drew (S := fun W' => W'.cell? ⟨w13.heap.size, 0, none⟩ = some (.int .i64 0) ∧ W'.cell? ⟨w13.heap.size, 1, none⟩ = some (.int .i64 0) ∧ W'.cell? ⟨w13.heap.size, 2, none⟩ = some (.bool false)) (by kernel_rfl) (KS.out _ (by repeat (first | with_reducible exact Below.refl _ _ | with_reducible assumption | with_reducible refine Below.drew ?_ | with_reducible refine below_drewN ?_ _ | with_reducible refine Below.setCell ?_ (by first | omega | (simp <;> omega)) _ | with_reducible refine Below.alloc ?_ (by first | omega | (simp <;> omega)) _))) (fun hHeld => ?_)
      apply wpAnyH_take (i := 0)
      case hi =>
        simp only [List.getElem?_toArray, List.getElem?_cons_succ, List.getElem?_cons_zero]
        exact rfl
      case hs => kernel_rfl
      case hf => kernel_rfl
      case hr => kernel_rfl
      case hy =>
        refine Or.inl ⟨by rfl, ?_⟩
        intro w hSw
        (try dsimp only at hSw)
        first | (go_simp; done) | (go_simp; with_reducible rfl)
      case hQ => exact fun _ _ _ h => h
      case hS => assumption
      try simp only [Act.put, List.setIfInBounds_toArray, List.set_cons_zero, List.set_cons_succ]
      apply wpAnyH_take (i := 2)
      case hi =>
        simp only [List.getElem?_toArray, List.getElem?_cons_succ, List.getElem?_cons_zero]
        exact rfl
      case hs => kernel_rfl
      case hf => kernel_rfl
      case hr => kernel_rfl
      case hy =>
        refine Or.inl ⟨by rfl, ?_⟩
        intro w hSw
        (try dsimp only at hSw)
        first | (go_simp; done) | (go_simp; with_reducible rfl)
      case hQ => exact fun _ _ _ h => h
      case hS => assumption
      try simp only [Act.put, List.setIfInBounds_toArray, List.set_cons_zero, List.set_cons_succ]
      refine wpAnyH_ready (rs := [1]) (by kernel_rfl) (by simp) ?_
      apply AllReadyH.cons
      case ho =>
        simp only [List.getElem?_toArray, List.getElem?_cons_succ, List.getElem?_cons_zero]
        exact rfl
      case hs => exact AllReadyH.nil
      intro K hK
      go_simp
      refine (right_any _ n c L _ (HW1.out.next (by repeat (first | with_reducible exact Below.refl _ _ | with_reducible assumption | with_reducible refine Below.drew ?_ | with_reducible refine below_drewN ?_ _ | with_reducible refine Below.setCell ?_ (by first | omega | (simp <;> omega)) _ | with_reducible refine Below.alloc ?_ (by first | omega | (simp <;> omega)) _)))).mono ?_; rintro e wn ⟨he, hbn⟩; rw [HRB.out] at he; subst he; have hbN := below_next (v := W3) (by repeat (first | with_reducible exact Below.refl _ _ | with_reducible assumption | with_reducible refine Below.drew ?_ | with_reducible refine below_drewN ?_ _ | with_reducible refine Below.setCell ?_ (by first | omega | (simp <;> omega)) _ | with_reducible refine Below.alloc ?_ (by first | omega | (simp <;> omega)) _)) hbn; have hsN := hbN.size; clear hbn
      refine hK.out _ _ (KS.out _ (by repeat (first | with_reducible exact Below.refl _ _ | with_reducible assumption | with_reducible refine Below.drew ?_ | with_reducible refine below_drewN ?_ _ | with_reducible refine Below.setCell ?_ (by first | omega | (simp <;> omega)) _ | with_reducible refine Below.alloc ?_ (by first | omega | (simp <;> omega)) _))) (fun hHeld => ?_)
      clear hK K
      try simp only [Act.put, List.setIfInBounds_toArray, List.set_cons_zero, List.set_cons_succ]
      refine wpAnyH_ready (rs := [3]) (by kernel_rfl) (by simp) ?_
      apply AllReadyH.cons
      case ho =>
        simp only [List.getElem?_toArray, List.getElem?_cons_succ, List.getElem?_cons_zero]
        exact rfl
      case hs => exact AllReadyH.nil
      intro K hK
      go_simp
      refine (rright_any _ n c L _ (HW1.out.next (by repeat (first | with_reducible exact Below.refl _ _ | with_reducible assumption | with_reducible refine Below.drew ?_ | with_reducible refine below_drewN ?_ _ | with_reducible refine Below.setCell ?_ (by first | omega | (simp <;> omega)) _ | with_reducible refine Below.alloc ?_ (by first | omega | (simp <;> omega)) _)))).mono ?_; rintro e wn ⟨he, hbn⟩; rw [HRB.out] at he; subst he; have hbN := below_next (v := W3) (by repeat (first | with_reducible exact Below.refl _ _ | with_reducible assumption | with_reducible refine Below.drew ?_ | with_reducible refine below_drewN ?_ _ | with_reducible refine Below.setCell ?_ (by first | omega | (simp <;> omega)) _ | with_reducible refine Below.alloc ?_ (by first | omega | (simp <;> omega)) _)) hbn; have hsN := hbN.size; clear hbn
      refine hK.out _ _ (KS.out _ (by repeat (first | with_reducible exact Below.refl _ _ | with_reducible assumption | with_reducible refine Below.drew ?_ | with_reducible refine below_drewN ?_ _ | with_reducible refine Below.setCell ?_ (by first | omega | (simp <;> omega)) _ | with_reducible refine Below.alloc ?_ (by first | omega | (simp <;> omega)) _))) (fun hHeld => ?_)
      clear hK K
      try simp only [Act.put, List.setIfInBounds_toArray, List.set_cons_zero, List.set_cons_succ]
      apply wpAnyH_take (i := 4)
      case hi =>
        simp only [List.getElem?_toArray, List.getElem?_cons_succ, List.getElem?_cons_zero]
        exact rfl
      case hs => kernel_rfl
      case hf => kernel_rfl
      case hr => kernel_rfl
      case hy =>
        refine Or.inl ⟨by rfl, ?_⟩
        intro w hSw
        (try dsimp only at hSw)
        first | (go_simp; done) | (go_simp; with_reducible rfl)
      case hQ => exact fun _ _ _ h => h
      case hS => assumption
      try simp only [Act.put, List.setIfInBounds_toArray, List.set_cons_zero, List.set_cons_succ]
      apply wpAnyH_take (i := 5)
      case hi =>
        simp only [List.getElem?_toArray, List.getElem?_cons_succ, List.getElem?_cons_zero]
        exact rfl
      case hs => kernel_rfl
      case hf => kernel_rfl
      case hr => kernel_rfl
      case hy =>
        refine Or.inl ⟨by rfl, ?_⟩
        intro w hSw
        (try dsimp only at hSw)
        first | (go_simp; done) | (go_simp; with_reducible rfl)
      case hQ => exact fun _ _ _ h => h
      case hS => assumption
      try simp only [Act.put, List.setIfInBounds_toArray, List.set_cons_zero, List.set_cons_succ]
      apply wpAnyH_take (i := 6)
      case hi =>
        simp only [List.getElem?_toArray, List.getElem?_cons_succ, List.getElem?_cons_zero]
        exact rfl
      case hs => kernel_rfl
      case hf => kernel_rfl
      case hr => kernel_rfl
      case hy =>
        refine Or.inl ⟨by rfl, ?_⟩
        intro w hSw
        (try dsimp only at hSw)
        first | (go_simp; done) | (go_simp; with_reducible rfl)
      case hQ => exact fun _ _ _ h => h
      case hS => assumption
      try simp only [Act.put, List.setIfInBounds_toArray, List.set_cons_zero, List.set_cons_succ]
      apply wpAnyH_take (i := 7)
      case hi =>
        simp only [List.getElem?_toArray, List.getElem?_cons_succ, List.getElem?_cons_zero]
        exact rfl
      case hs => kernel_rfl
      case hf => kernel_rfl
      case hr => kernel_rfl
      case hy =>
        refine Or.inl ⟨by rfl, ?_⟩
        intro w hSw
        (try dsimp only at hSw)
        first | (go_simp; done) | (go_simp; with_reducible rfl)
      case hQ => exact fun _ _ _ h => h
      case hS => assumption
      try simp only [Act.put, List.setIfInBounds_toArray, List.set_cons_zero, List.set_cons_succ]
      apply wpAnyH_take (i := 8)
      case hi =>
        simp only [List.getElem?_toArray, List.getElem?_cons_succ, List.getElem?_cons_zero]
        exact rfl
      case hs => kernel_rfl
      case hf => kernel_rfl
      case hr => kernel_rfl
      case hy =>
        refine Or.inl ⟨by rfl, ?_⟩
        intro w hSw
        (try dsimp only at hSw)
        first | (go_simp; done) | (go_simp; with_reducible rfl)
      case hQ => exact fun _ _ _ h => h
      case hS => assumption
      try simp only [Act.put, List.setIfInBounds_toArray, List.set_cons_zero, List.set_cons_succ]
      apply wpAnyH_take (i := 9)
      case hi =>
        simp only [List.getElem?_toArray, List.getElem?_cons_succ, List.getElem?_cons_zero]
        exact rfl
      case hs => kernel_rfl
      case hf => kernel_rfl
      case hr => kernel_rfl
      case hy =>
        refine Or.inl ⟨by rfl, ?_⟩
        intro w hSw
        (try dsimp only at hSw)
        first | (go_simp; done) | (go_simp; with_reducible rfl)
      case hQ => exact fun _ _ _ h => h
      case hS => assumption
      try simp only [Act.put, List.setIfInBounds_toArray, List.set_cons_zero, List.set_cons_succ]
      apply wpAnyH_take (i := 10)
      case hi =>
        simp only [List.getElem?_toArray, List.getElem?_cons_succ, List.getElem?_cons_zero]
        exact rfl
      case hs => kernel_rfl
      case hf => kernel_rfl
      case hr => kernel_rfl
      case hy =>
        refine Or.inl ⟨by rfl, ?_⟩
        intro w hSw
        (try dsimp only at hSw)
        first | (go_simp; done) | (go_simp; with_reducible rfl)
      case hQ => exact fun _ _ _ h => h
      case hS => assumption
      try simp only [Act.put, List.setIfInBounds_toArray, List.set_cons_zero, List.set_cons_succ]
      apply wpAnyH_take (i := 11)
      case hi =>
        simp only [List.getElem?_toArray, List.getElem?_cons_succ, List.getElem?_cons_zero]
        exact rfl
      case hs => kernel_rfl
      case hf => kernel_rfl
      case hr => kernel_rfl
      case hy =>
        refine Or.inl ⟨by rfl, ?_⟩
        intro w hSw
        (try dsimp only at hSw)
        first | (go_simp; done) | (go_simp; with_reducible rfl)
      case hQ => exact fun _ _ _ h => h
      case hS => assumption
      try simp only [Act.put, List.setIfInBounds_toArray, List.set_cons_zero, List.set_cons_succ]
      apply wpAnyH_take (i := 12)
      case hi =>
        simp only [List.getElem?_toArray, List.getElem?_cons_succ, List.getElem?_cons_zero]
        exact rfl
      case hs => kernel_rfl
      case hf => kernel_rfl
      case hr => kernel_rfl
      case hy =>
        refine Or.inl ⟨by rfl, ?_⟩
        intro w hSw
        (try dsimp only at hSw)
        first | (go_simp; done) | (go_simp; with_reducible rfl)
      case hQ => exact fun _ _ _ h => h
      case hS => assumption
      try simp only [Act.put, List.setIfInBounds_toArray, List.set_cons_zero, List.set_cons_succ]
      apply wpAnyH_take (i := 13)
      case hi =>
        simp only [List.getElem?_toArray, List.getElem?_cons_succ, List.getElem?_cons_zero]
        exact rfl
      case hs => kernel_rfl
      case hf => kernel_rfl
      case hr => kernel_rfl
      case hy =>
        refine Or.inl ⟨by rfl, ?_⟩
        intro w hSw
        (try dsimp only at hSw)
        first | (go_simp; done) | (go_simp; with_reducible rfl)
      case hQ => exact fun _ _ _ h => h
      case hS => assumption
      try simp only [Act.put, List.setIfInBounds_toArray, List.set_cons_zero, List.set_cons_succ]
      apply wpAnyH_take (i := 14)
      case hi =>
        simp only [List.getElem?_toArray, List.getElem?_cons_succ, List.getElem?_cons_zero]
        exact rfl
      case hs => kernel_rfl
      case hf => kernel_rfl
      case hr => kernel_rfl
      case hy =>
        refine Or.inl ⟨by rfl, ?_⟩
        intro w hSw
        (try dsimp only at hSw)
        first | (go_simp; done) | (go_simp; with_reducible rfl)
      case hQ => exact fun _ _ _ h => h
      case hS => assumption
      try simp only [Act.put, List.setIfInBounds_toArray, List.set_cons_zero, List.set_cons_succ]
      apply wpAnyH_take (i := 15)
      case hi =>
        simp only [List.getElem?_toArray, List.getElem?_cons_succ, List.getElem?_cons_zero]
        exact rfl
      case hs => kernel_rfl
      case hf => kernel_rfl
      case hr => kernel_rfl
      case hy =>
        refine Or.inl ⟨by rfl, ?_⟩
        intro w hSw
        (try dsimp only at hSw)
        first | (go_simp; done) | (go_simp; with_reducible rfl)
      case hQ => exact fun _ _ _ h => h
      case hS => assumption
      try simp only [Act.put, List.setIfInBounds_toArray, List.set_cons_zero, List.set_cons_succ]
      apply wpAnyH_take (i := 16)
      case hi =>
        simp only [List.getElem?_toArray, List.getElem?_cons_succ, List.getElem?_cons_zero]
        exact rfl
      case hs => kernel_rfl
      case hf => kernel_rfl
      case hr => kernel_rfl
      case hy =>
        refine Or.inl ⟨by rfl, ?_⟩
        intro w hSw
        (try dsimp only at hSw)
        first | (go_simp; done) | (go_simp; with_reducible rfl)
      case hQ => exact fun _ _ _ h => h
      case hS => assumption
      try simp only [Act.put, List.setIfInBounds_toArray, List.set_cons_zero, List.set_cons_succ]
      apply wpAnyH_take (i := 17)
      case hi =>
        simp only [List.getElem?_toArray, List.getElem?_cons_succ, List.getElem?_cons_zero]
        exact rfl
      case hs => kernel_rfl
      case hf => kernel_rfl
      case hr => kernel_rfl
      case hy =>
        refine Or.inl ⟨by rfl, ?_⟩
        intro w hSw
        (try dsimp only at hSw)
        first | (go_simp; done) | (go_simp; with_reducible rfl)
      case hQ => exact fun _ _ _ h => h
      case hS => assumption
      try simp only [Act.put, List.setIfInBounds_toArray, List.set_cons_zero, List.set_cons_succ]
      apply wpAnyH_take (i := 18)
      case hi =>
        simp only [List.getElem?_toArray, List.getElem?_cons_succ, List.getElem?_cons_zero]
        exact rfl
      case hs => kernel_rfl
      case hf => kernel_rfl
      case hr => kernel_rfl
      case hy =>
        refine Or.inl ⟨by rfl, ?_⟩
        intro w hSw
        (try dsimp only at hSw)
        first | (go_simp; done) | (go_simp; with_reducible rfl)
      case hQ => exact fun _ _ _ h => h
      case hS => assumption
      try simp only [Act.put, List.setIfInBounds_toArray, List.set_cons_zero, List.set_cons_succ]
      apply wpAnyH_take (i := 19)
      case hi =>
        simp only [List.getElem?_toArray, List.getElem?_cons_succ, List.getElem?_cons_zero]
        exact rfl
      case hs => kernel_rfl
      case hf => kernel_rfl
      case hr => kernel_rfl
      case hy =>
        refine Or.inl ⟨by rfl, ?_⟩
        intro w hSw
        (try dsimp only at hSw)
        first | (go_simp; done) | (go_simp; with_reducible rfl)
      case hQ => exact fun _ _ _ h => h
      case hS => assumption
      try simp only [Act.put, List.setIfInBounds_toArray, List.set_cons_zero, List.set_cons_succ]
      apply wpAnyH_take (i := 20)
      case hi =>
        simp only [List.getElem?_toArray, List.getElem?_cons_succ, List.getElem?_cons_zero]
        exact rfl
      case hs => kernel_rfl
      case hf => kernel_rfl
      case hr => kernel_rfl
      case hy =>
        refine Or.inl ⟨by rfl, ?_⟩
        intro w hSw
        (try dsimp only at hSw)
        first | (go_simp; done) | (go_simp; with_reducible rfl)
      case hQ => exact fun _ _ _ h => h
      case hS => assumption
      try simp only [Act.put, List.setIfInBounds_toArray, List.set_cons_zero, List.set_cons_succ]
      apply wpAnyH_take (i := 21)
      case hi =>
        simp only [List.getElem?_toArray, List.getElem?_cons_succ, List.getElem?_cons_zero]
        exact rfl
      case hs => kernel_rfl
      case hf => kernel_rfl
      case hr => kernel_rfl
      case hy =>
        refine Or.inl ⟨by rfl, ?_⟩
        intro w hSw
        (try dsimp only at hSw)
        first | (go_simp; done) | (go_simp; with_reducible rfl)
      case hQ => exact fun _ _ _ h => h
      case hS => assumption
      try simp only [Act.put, List.setIfInBounds_toArray, List.set_cons_zero, List.set_cons_succ]
      apply wpAnyH_take (i := 22)
      case hi =>
        simp only [List.getElem?_toArray, List.getElem?_cons_succ, List.getElem?_cons_zero]
        exact rfl
      case hs => kernel_rfl
      case hf => kernel_rfl
      case hr => kernel_rfl
      case hy =>
        refine Or.inl ⟨by rfl, ?_⟩
        intro w hSw
        (try dsimp only at hSw)
        first | (go_simp; done) | (go_simp; with_reducible rfl)
      case hQ => exact fun _ _ _ h => h
      case hS => assumption
      try simp only [Act.put, List.setIfInBounds_toArray, List.set_cons_zero, List.set_cons_succ]
      apply wpAnyH_take (i := 23)
      case hi =>
        simp only [List.getElem?_toArray, List.getElem?_cons_succ, List.getElem?_cons_zero]
        exact rfl
      case hs => kernel_rfl
      case hf => kernel_rfl
      case hr => kernel_rfl
      case hy =>
        refine Or.inl ⟨by rfl, ?_⟩
        intro w hSw
        (try dsimp only at hSw)
        first | (go_simp; done) | (go_simp; with_reducible rfl)
      case hQ => exact fun _ _ _ h => h
      case hS => assumption
      try simp only [Act.put, List.setIfInBounds_toArray, List.set_cons_zero, List.set_cons_succ]
      apply wpAnyH_take (i := 24)
      case hi =>
        simp only [List.getElem?_toArray, List.getElem?_cons_succ, List.getElem?_cons_zero]
        exact rfl
      case hs => kernel_rfl
      case hf => kernel_rfl
      case hr => kernel_rfl
      case hy =>
        refine Or.inl ⟨by rfl, ?_⟩
        intro w hSw
        (try dsimp only at hSw)
        first | (go_simp; done) | (go_simp; with_reducible rfl)
      case hQ => exact fun _ _ _ h => h
      case hS => assumption
      try simp only [Act.put, List.setIfInBounds_toArray, List.set_cons_zero, List.set_cons_succ]
      apply wpAnyH_take (i := 25) (v := undef)
      case hi =>
        simp only [List.getElem?_toArray, List.getElem?_cons_succ, List.getElem?_cons_zero]
        exact rfl
      case hs => kernel_rfl
      case hf => kernel_rfl
      case hr => kernel_rfl
      case hy => exact Or.inr ⟨by rfl, rfl⟩
      case hQ => exact fun _ _ _ h => h
      case hS => assumption
      try simp only [Act.put, List.setIfInBounds_toArray, List.set_cons_zero, List.set_cons_succ]
      apply wpAnyH_take (i := 26) (v := undef)
      case hi =>
        simp only [List.getElem?_toArray, List.getElem?_cons_succ, List.getElem?_cons_zero]
        exact rfl
      case hs => kernel_rfl
      case hf => kernel_rfl
      case hr => kernel_rfl
      case hy => exact Or.inr ⟨by rfl, rfl⟩
      case hQ => exact fun _ _ _ h => h
      case hS => assumption
      try simp only [Act.put, List.setIfInBounds_toArray, List.set_cons_zero, List.set_cons_succ]
      apply wpAnyH_take (i := 27) (v := undef)
      case hi =>
        simp only [List.getElem?_toArray, List.getElem?_cons_succ, List.getElem?_cons_zero]
        exact rfl
      case hs => kernel_rfl
      case hf => kernel_rfl
      case hr => kernel_rfl
      case hy => exact Or.inr ⟨by rfl, rfl⟩
      case hQ => exact fun _ _ _ h => h
      case hS => assumption
      try simp only [Act.put, List.setIfInBounds_toArray, List.set_cons_zero, List.set_cons_succ]
      refine wpAnyH_ready (rs := [28]) (by kernel_rfl) (by simp) ?_
      apply AllReadyH.cons
      case ho =>
        simp only [List.getElem?_toArray, List.getElem?_cons_succ, List.getElem?_cons_zero]
        exact rfl
      case hs => exact AllReadyH.nil
      intro K hK
      go_simp
      refine hK.out _ _ (KS.out _ (by repeat (first | with_reducible exact Below.refl _ _ | with_reducible assumption | with_reducible refine Below.drew ?_ | with_reducible refine below_drewN ?_ _ | with_reducible refine Below.setCell ?_ (by first | omega | (simp <;> omega)) _ | with_reducible refine Below.alloc ?_ (by first | omega | (simp <;> omega)) _))) (fun hHeld => ?_)
      clear hK K
      try simp only [Act.put, List.setIfInBounds_toArray, List.set_cons_zero, List.set_cons_succ]
      apply wpAnyH_take (i := 29) (v := undef)
      case hi =>
        simp only [List.getElem?_toArray, List.getElem?_cons_succ, List.getElem?_cons_zero]
        exact rfl
      case hs => kernel_rfl
      case hf => kernel_rfl
      case hr => kernel_rfl
      case hy => exact Or.inr ⟨by rfl, rfl⟩
      case hQ => exact fun _ _ _ h => h
      case hS => assumption
      try simp only [Act.put, List.setIfInBounds_toArray, List.set_cons_zero, List.set_cons_succ]
      apply wpAnyH_take (i := 30) (v := undef)
      case hi =>
        simp only [List.getElem?_toArray, List.getElem?_cons_succ, List.getElem?_cons_zero]
        exact rfl
      case hs => kernel_rfl
      case hf => kernel_rfl
      case hr => kernel_rfl
      case hy => exact Or.inr ⟨by rfl, rfl⟩
      case hQ => exact fun _ _ _ h => h
      case hS => assumption
      try simp only [Act.put, List.setIfInBounds_toArray, List.set_cons_zero, List.set_cons_succ]
      apply wpAnyH_take (i := 31) (v := undef)
      case hi =>
        simp only [List.getElem?_toArray, List.getElem?_cons_succ, List.getElem?_cons_zero]
        exact rfl
      case hs => kernel_rfl
      case hf => kernel_rfl
      case hr => kernel_rfl
      case hy => exact Or.inr ⟨by rfl, rfl⟩
      case hQ => exact fun _ _ _ h => h
      case hS => assumption
      try simp only [Act.put, List.setIfInBounds_toArray, List.set_cons_zero, List.set_cons_succ]
      apply wpAnyH_take (i := 32)
      case hi =>
        simp only [List.getElem?_toArray, List.getElem?_cons_succ, List.getElem?_cons_zero]
        exact rfl
      case hs => kernel_rfl
      case hf => kernel_rfl
      case hr => kernel_rfl
      case hy =>
        refine Or.inl ⟨by rfl, ?_⟩
        intro w hSw
        (try dsimp only at hSw)
        first | (go_simp; done) | (go_simp; with_reducible rfl)
      case hQ => exact fun _ _ _ h => h
      case hS => assumption
      try simp only [Act.put, List.setIfInBounds_toArray, List.set_cons_zero, List.set_cons_succ]
      apply wpAnyH_take (i := 33)
      case hi =>
        simp only [List.getElem?_toArray, List.getElem?_cons_succ, List.getElem?_cons_zero]
        exact rfl
      case hs => kernel_rfl
      case hf => kernel_rfl
      case hr => kernel_rfl
      case hy =>
        refine Or.inl ⟨by rfl, ?_⟩
        intro w hSw
        (try dsimp only at hSw)
        first | (go_simp; done) | (go_simp; with_reducible rfl)
      case hQ => exact fun _ _ _ h => h
      case hS => assumption
      try simp only [Act.put, List.setIfInBounds_toArray, List.set_cons_zero, List.set_cons_succ]
      apply wpAnyH_take (i := 34)
      case hi =>
        simp only [List.getElem?_toArray, List.getElem?_cons_succ, List.getElem?_cons_zero]
        exact rfl
      case hs => kernel_rfl
      case hf => kernel_rfl
      case hr => kernel_rfl
      case hy =>
        refine Or.inl ⟨by rfl, ?_⟩
        intro w hSw
        (try dsimp only at hSw)
        first | (go_simp; done) | (go_simp; with_reducible rfl)
      case hQ => exact fun _ _ _ h => h
      case hS => assumption
      try simp only [Act.put, List.setIfInBounds_toArray, List.set_cons_zero, List.set_cons_succ]
      apply wpAnyH_take (i := 35)
      case hi =>
        simp only [List.getElem?_toArray, List.getElem?_cons_succ, List.getElem?_cons_zero]
        exact rfl
      case hs => kernel_rfl
      case hf => kernel_rfl
      case hr => kernel_rfl
      case hy =>
        refine Or.inl ⟨by rfl, ?_⟩
        intro w hSw
        (try dsimp only at hSw)
        first | (go_simp; done) | (go_simp; with_reducible rfl)
      case hQ => exact fun _ _ _ h => h
      case hS => assumption
      try simp only [Act.put, List.setIfInBounds_toArray, List.set_cons_zero, List.set_cons_succ]
      apply wpAnyH_take (i := 36)
      case hi =>
        simp only [List.getElem?_toArray, List.getElem?_cons_succ, List.getElem?_cons_zero]
        exact rfl
      case hs => kernel_rfl
      case hf => kernel_rfl
      case hr => kernel_rfl
      case hy =>
        refine Or.inl ⟨by rfl, ?_⟩
        intro w hSw
        (try dsimp only at hSw)
        first | (go_simp; done) | (go_simp; with_reducible rfl)
      case hQ => exact fun _ _ _ h => h
      case hS => assumption
      try simp only [Act.put, List.setIfInBounds_toArray, List.set_cons_zero, List.set_cons_succ]
      apply wpAnyH_take (i := 37)
      case hi =>
        simp only [List.getElem?_toArray, List.getElem?_cons_succ, List.getElem?_cons_zero]
        exact rfl
      case hs => kernel_rfl
      case hf => kernel_rfl
      case hr => kernel_rfl
      case hy =>
        refine Or.inl ⟨by rfl, ?_⟩
        intro w hSw
        (try dsimp only at hSw)
        first | (go_simp; done) | (go_simp; with_reducible rfl)
      case hQ => exact fun _ _ _ h => h
      case hS => assumption
      try simp only [Act.put, List.setIfInBounds_toArray, List.set_cons_zero, List.set_cons_succ]
      apply wpAnyH_take (i := 38)
      case hi =>
        simp only [List.getElem?_toArray, List.getElem?_cons_succ, List.getElem?_cons_zero]
        exact rfl
      case hs => kernel_rfl
      case hf => kernel_rfl
      case hr => kernel_rfl
      case hy =>
        refine Or.inl ⟨by rfl, ?_⟩
        intro w hSw
        (try dsimp only at hSw)
        first | (go_simp; done) | (go_simp; with_reducible rfl)
      case hQ => exact fun _ _ _ h => h
      case hS => assumption
      try simp only [Act.put, List.setIfInBounds_toArray, List.set_cons_zero, List.set_cons_succ]
      apply wpAnyH_take (i := 39)
      case hi =>
        simp only [List.getElem?_toArray, List.getElem?_cons_succ, List.getElem?_cons_zero]
        exact rfl
      case hs => kernel_rfl
      case hf => kernel_rfl
      case hr => kernel_rfl
      case hy =>
        refine Or.inl ⟨by rfl, ?_⟩
        intro w hSw
        (try dsimp only at hSw)
        first | (go_simp; done) | (go_simp; with_reducible rfl)
      case hQ => exact fun _ _ _ h => h
      case hS => assumption
      try simp only [Act.put, List.setIfInBounds_toArray, List.set_cons_zero, List.set_cons_succ]
      apply wpAnyH_take (i := 40)
      case hi =>
        simp only [List.getElem?_toArray, List.getElem?_cons_succ, List.getElem?_cons_zero]
        exact rfl
      case hs => kernel_rfl
      case hf => kernel_rfl
      case hr => kernel_rfl
      case hy =>
        refine Or.inl ⟨by rfl, ?_⟩
        intro w hSw
        (try dsimp only at hSw)
        first | (go_simp; done) | (go_simp; with_reducible rfl)
      case hQ => exact fun _ _ _ h => h
      case hS => assumption
      try simp only [Act.put, List.setIfInBounds_toArray, List.set_cons_zero, List.set_cons_succ]
      apply wpAnyH_take (i := 41)
      case hi =>
        simp only [List.getElem?_toArray, List.getElem?_cons_succ, List.getElem?_cons_zero]
        exact rfl
      case hs => kernel_rfl
      case hf => kernel_rfl
      case hr => kernel_rfl
      case hy =>
        refine Or.inl ⟨by rfl, ?_⟩
        intro w hSw
        (try dsimp only at hSw)
        first | (go_simp; done) | (go_simp; with_reducible rfl)
      case hQ => exact fun _ _ _ h => h
      case hS => assumption
      try simp only [Act.put, List.setIfInBounds_toArray, List.set_cons_zero, List.set_cons_succ]
      apply wpAnyH_take (i := 42)
      case hi =>
        simp only [List.getElem?_toArray, List.getElem?_cons_succ, List.getElem?_cons_zero]
        exact rfl
      case hs => kernel_rfl
      case hf => kernel_rfl
      case hr => kernel_rfl
      case hy =>
        refine Or.inl ⟨by rfl, ?_⟩
        intro w hSw
        (try dsimp only at hSw)
        first | (go_simp; done) | (go_simp; with_reducible rfl)
      case hQ => exact fun _ _ _ h => h
      case hS => assumption
      try simp only [Act.put, List.setIfInBounds_toArray, List.set_cons_zero, List.set_cons_succ]
      apply wpAnyH_take (i := 43)
      case hi =>
        simp only [List.getElem?_toArray, List.getElem?_cons_succ, List.getElem?_cons_zero]
        exact rfl
      case hs => kernel_rfl
      case hf => kernel_rfl
      case hr => kernel_rfl
      case hy =>
        refine Or.inl ⟨by rfl, ?_⟩
        intro w hSw
        (try dsimp only at hSw)
        first | (go_simp; done) | (go_simp; with_reducible rfl)
      case hQ => exact fun _ _ _ h => h
      case hS => assumption
      try simp only [Act.put, List.setIfInBounds_toArray, List.set_cons_zero, List.set_cons_succ]
      refine wpAnyH_ready (rs := [44]) (by kernel_rfl) (by simp) ?_
      apply AllReadyH.cons
      case ho =>
        simp only [List.getElem?_toArray, List.getElem?_cons_succ, List.getElem?_cons_zero]
        exact rfl
      case hs => exact AllReadyH.nil
      intro K hK
      go_simp
      refine (known_any _).mono ?_; rintro e wn ⟨rfl, hbn⟩; have hbN := below_next (v := W3) (by repeat (first | with_reducible exact Below.refl _ _ | with_reducible assumption | with_reducible refine Below.drew ?_ | with_reducible refine below_drewN ?_ _ | with_reducible refine Below.setCell ?_ (by first | omega | (simp <;> omega)) _ | with_reducible refine Below.alloc ?_ (by first | omega | (simp <;> omega)) _)) hbn; have hsN := hbN.size; clear hbn
      refine hK.out _ _ (KS.out _ (by repeat (first | with_reducible exact Below.refl _ _ | with_reducible assumption | with_reducible refine Below.drew ?_ | with_reducible refine below_drewN ?_ _ | with_reducible refine Below.setCell ?_ (by first | omega | (simp <;> omega)) _ | with_reducible refine Below.alloc ?_ (by first | omega | (simp <;> omega)) _))) (fun hHeld => ?_)
      clear hK K
      try simp only [Act.put, List.setIfInBounds_toArray, List.set_cons_zero, List.set_cons_succ]
      apply wpAnyH_take (i := 45)
      case hi =>
        simp only [List.getElem?_toArray, List.getElem?_cons_succ, List.getElem?_cons_zero]
        exact rfl
      case hs => kernel_rfl
      case hf => kernel_rfl
      case hr => kernel_rfl
      case hy =>
        refine Or.inl ⟨by rfl, ?_⟩
        intro w hSw
        (try dsimp only at hSw)
        first | (go_simp; done) | (go_simp; with_reducible rfl)
      case hQ => exact fun _ _ _ h => h
      case hS => assumption
      try simp only [Act.put, List.setIfInBounds_toArray, List.set_cons_zero, List.set_cons_succ]
      apply wpAnyH_take (i := 46)
      case hi =>
        simp only [List.getElem?_toArray, List.getElem?_cons_succ, List.getElem?_cons_zero]
        exact rfl
      case hs => kernel_rfl
      case hf => kernel_rfl
      case hr => kernel_rfl
      case hy =>
        refine Or.inl ⟨by rfl, ?_⟩
        intro w hSw
        (try dsimp only at hSw)
        first | (go_simp; done) | (go_simp; with_reducible rfl)
      case hQ => exact fun _ _ _ h => h
      case hS => assumption
      try simp only [Act.put, List.setIfInBounds_toArray, List.set_cons_zero, List.set_cons_succ]
      refine wpAnyH_done (by kernel_rfl) ?_ _
      go_wp2_with fail
      go_ret
      exact ⟨rfl, HBW.out.trans (Below.mono (B := W3.heap.size) (by repeat (first | with_reducible exact Below.refl _ _ | with_reducible assumption | with_reducible refine Below.drew ?_ | with_reducible refine below_drewN ?_ _ | with_reducible refine Below.setCell ?_ (by first | omega | (simp <;> omega)) _ | with_reducible refine Below.alloc ?_ (by first | omega | (simp <;> omega)) _)) HBW.out.size)⟩
    · skip
      have hk : k < n := by have e := (List.getElem?_eq_some_iff.1 hx).1; rw [cl_length H1.out] at e; exact e
      go_wp2_with fail
      refine (find_any A n c L id _ (H15.out.next hb59)).mono ?_
      rintro e w13 hf
      obtain ⟨rfl, hb13⟩ := hf.yes h2
      have hb5d := below_next (v := w5) hb59 hb13
      have k13 := (KS.out _ hb5d).2.1
      have z13 : w.heap.size < w13.heap.size := Nat.lt_of_lt_of_le z5 hb5d.size
      clear hf hb13
      go_wp2_with fail
      have hbx : Below w5.heap.size w5 (w13.alloc (.cells #[.int .i64 ci, .int .i64 cp, .bool cf] 42)) := Below.alloc hb5d hb5d.size _
      refine (rfind_any A n c L id _ (H15.out.next hbx)).mono ?_
      rw [fidI_some h1]
      rintro e w14 ⟨rfl, rfl⟩
      generalize hW : World.alloc w13 _ = W3
      rw [hW] at hbx
      have kW : W3.heap[w13.heap.size]? = some (.cells #[.int .i64 ci, .int .i64 cp, .bool cf] 42 (0, 0)) := by rw [← hW]; exact blk_new rfl
      have zW := blk_lt kW
      have HW1 := Lib.hid (H15.out.next hbx)
      have HBW : Hid (Below w.heap.size w W3) := Lib.hid (HB05.out.trans (hbx.mono HB05.out.size))
      obtain ⟨b, o, ci', cp', cf', rfl, hbb, hx', x0, x1, x2⟩ := cl_at HW1.out hk
      rw [hx] at hx'
      injection hx' with hx'
      simp only [Prod.mk.injEq] at hx'
      obtain ⟨rfl, rfl, rfl⟩ := hx'
      have hbw : b < W3.heap.size := hbb
      have c0 : (0 : Int) ≤ (k : Int) := by omega
      have ck : (k : Int) < (n : Int) := by omega
      have cn : ¬ (k : Int) < 0 := by omega
      have g1 : decide ((0 : Int) ≤ (k : Int)) = true := dec_yes (by omega)
      have g2 : decide ((k : Int) < 0) = false := dec_no (by omega)
      clear hW hbx hb59 hb5d k9 k13 z13 h1 h2 z5 H1 H15 HB05 HB58 K5 KS hx
      go_wp2_with fail
      have ks : ∀ W' : World, Below W3.heap.size W3 W' → (W'.cell? ⟨w13.heap.size, 0, none⟩ = some (.int .i64 ci) ∧ W'.cell? ⟨w13.heap.size, 1, none⟩ = some (.int .i64 cp) ∧ W'.cell? ⟨w13.heap.size, 2, none⟩ = some (.bool cf) ∧ W'.cell? ⟨b, o + k * 3, none⟩ = some (.int .i64 ci) ∧ W'.cell? ⟨b, o + k * 3 + 1, none⟩ = some (.int .i64 cp) ∧ W'.cell? ⟨b, o + k * 3 + 2, none⟩ = some (.bool cf)) := fun W' hb => ⟨(hb.cell (p := ⟨w13.heap.size, 0, none⟩) zW).trans (blk_cell kW 0), (hb.cell (p := ⟨w13.heap.size, 1, none⟩) zW).trans (blk_cell kW 1), (hb.cell (p := ⟨w13.heap.size, 2, none⟩) zW).trans (blk_cell kW 2), (hb.cell (p := ⟨b, o + k * 3, none⟩) hbw).trans x0, (hb.cell (p := ⟨b, o + k * 3 + 1, none⟩) hbw).trans x1, (hb.cell (p := ⟨b, o + k * 3 + 2, none⟩) hbw).trans x2⟩
      have KS := Lib.hid ks
      clear ks kW
      refine wp_region_held_drew (S := fun W' => W'.cell? ⟨w13.heap.size, 0, none⟩ = some (.int .i64 ci) ∧ W'.cell? ⟨w13.heap.size, 1, none⟩ = some (.int .i64 cp) ∧ W'.cell? ⟨w13.heap.size, 2, none⟩ = some (.bool cf) ∧ W'.cell? ⟨b, o + k * 3, none⟩ = some (.int .i64 ci) ∧ W'.cell? ⟨b, o + k * 3 + 1, none⟩ = some (.int .i64 cp) ∧ W'.cell? ⟨b, o + k * 3 + 2, none⟩ = some (.bool cf)) (by kernel_rfl) (KS.out _ (by repeat (first | with_reducible exact Below.refl _ _ | with_reducible assumption | with_reducible refine Below.drew ?_ | with_reducible refine below_drewN ?_ _ | with_reducible refine Below.setCell ?_ (by first | omega | (simp <;> omega)) _ | with_reducible refine Below.alloc ?_ (by first | omega | (simp <;> omega)) _))) (fun hHeld => ?_)
      apply wpAnyH_take (i := 0)
      case hi =>
        simp only [List.getElem?_toArray, List.getElem?_cons_succ, List.getElem?_cons_zero]
        exact rfl
      case hs => kernel_rfl
      case hf => kernel_rfl
      case hr => kernel_rfl
      case hy =>
        refine Or.inl ⟨by rfl, ?_⟩
        intro w hSw
        (try dsimp only at hSw)
        first | (go_simp; done) | (go_simp; with_reducible rfl)
      case hQ => exact fun _ _ _ h => h
      case hS => assumption
      try simp only [Act.put, List.setIfInBounds_toArray, List.set_cons_zero, List.set_cons_succ]
      apply wpAnyH_take (i := 2)
      case hi =>
        simp only [List.getElem?_toArray, List.getElem?_cons_succ, List.getElem?_cons_zero]
        exact rfl
      case hs => kernel_rfl
      case hf => kernel_rfl
      case hr => kernel_rfl
      case hy =>
        refine Or.inl ⟨by rfl, ?_⟩
        intro w hSw
        (try dsimp only at hSw)
        first | (go_simp; done) | (go_simp; with_reducible rfl)
      case hQ => exact fun _ _ _ h => h
      case hS => assumption
      try simp only [Act.put, List.setIfInBounds_toArray, List.set_cons_zero, List.set_cons_succ]
      refine wpAnyH_ready (rs := [1]) (by kernel_rfl) (by simp) ?_
      apply AllReadyH.cons
      case ho =>
        simp only [List.getElem?_toArray, List.getElem?_cons_succ, List.getElem?_cons_zero]
        exact rfl
      case hs => exact AllReadyH.nil
      intro K hK
      go_simp
      refine (right_any _ n c L _ (HW1.out.next (by repeat (first | with_reducible exact Below.refl _ _ | with_reducible assumption | with_reducible refine Below.drew ?_ | with_reducible refine below_drewN ?_ _ | with_reducible refine Below.setCell ?_ (by first | omega | (simp <;> omega)) _ | with_reducible refine Below.alloc ?_ (by first | omega | (simp <;> omega)) _)))).mono ?_; rintro e wn ⟨he, hbn⟩; rw [HRB.out] at he; subst he; have hbN := below_next (v := W3) (by repeat (first | with_reducible exact Below.refl _ _ | with_reducible assumption | with_reducible refine Below.drew ?_ | with_reducible refine below_drewN ?_ _ | with_reducible refine Below.setCell ?_ (by first | omega | (simp <;> omega)) _ | with_reducible refine Below.alloc ?_ (by first | omega | (simp <;> omega)) _)) hbn; have hsN := hbN.size; clear hbn
      refine hK.out _ _ (KS.out _ (by repeat (first | with_reducible exact Below.refl _ _ | with_reducible assumption | with_reducible refine Below.drew ?_ | with_reducible refine below_drewN ?_ _ | with_reducible refine Below.setCell ?_ (by first | omega | (simp <;> omega)) _ | with_reducible refine Below.alloc ?_ (by first | omega | (simp <;> omega)) _))) (fun hHeld => ?_)
      clear hK K
      try simp only [Act.put, List.setIfInBounds_toArray, List.set_cons_zero, List.set_cons_succ]
      refine wpAnyH_ready (rs := [3]) (by kernel_rfl) (by simp) ?_
      apply AllReadyH.cons
      case ho =>
        simp only [List.getElem?_toArray, List.getElem?_cons_succ, List.getElem?_cons_zero]
        exact rfl
      case hs => exact AllReadyH.nil
      intro K hK
      go_simp
      refine (rright_any _ n c L _ (HW1.out.next (by repeat (first | with_reducible exact Below.refl _ _ | with_reducible assumption | with_reducible refine Below.drew ?_ | with_reducible refine below_drewN ?_ _ | with_reducible refine Below.setCell ?_ (by first | omega | (simp <;> omega)) _ | with_reducible refine Below.alloc ?_ (by first | omega | (simp <;> omega)) _)))).mono ?_; rintro e wn ⟨he, hbn⟩; rw [HRB.out] at he; subst he; have hbN := below_next (v := W3) (by repeat (first | with_reducible exact Below.refl _ _ | with_reducible assumption | with_reducible refine Below.drew ?_ | with_reducible refine below_drewN ?_ _ | with_reducible refine Below.setCell ?_ (by first | omega | (simp <;> omega)) _ | with_reducible refine Below.alloc ?_ (by first | omega | (simp <;> omega)) _)) hbn; have hsN := hbN.size; clear hbn
      refine hK.out _ _ (KS.out _ (by repeat (first | with_reducible exact Below.refl _ _ | with_reducible assumption | with_reducible refine Below.drew ?_ | with_reducible refine below_drewN ?_ _ | with_reducible refine Below.setCell ?_ (by first | omega | (simp <;> omega)) _ | with_reducible refine Below.alloc ?_ (by first | omega | (simp <;> omega)) _))) (fun hHeld => ?_)
      clear hK K
      try simp only [Act.put, List.setIfInBounds_toArray, List.set_cons_zero, List.set_cons_succ]
      apply wpAnyH_take (i := 4)
      case hi =>
        simp only [List.getElem?_toArray, List.getElem?_cons_succ, List.getElem?_cons_zero]
        exact rfl
      case hs => kernel_rfl
      case hf => kernel_rfl
      case hr => kernel_rfl
      case hy =>
        refine Or.inl ⟨by rfl, ?_⟩
        intro w hSw
        (try dsimp only at hSw)
        first | (go_simp; done) | (go_simp; with_reducible rfl)
      case hQ => exact fun _ _ _ h => h
      case hS => assumption
      try simp only [Act.put, List.setIfInBounds_toArray, List.set_cons_zero, List.set_cons_succ]
      apply wpAnyH_take (i := 5)
      case hi =>
        simp only [List.getElem?_toArray, List.getElem?_cons_succ, List.getElem?_cons_zero]
        exact rfl
      case hs => kernel_rfl
      case hf => kernel_rfl
      case hr => kernel_rfl
      case hy =>
        refine Or.inl ⟨by rfl, ?_⟩
        intro w hSw
        (try dsimp only at hSw)
        first | (go_simp; done) | (go_simp; with_reducible rfl)
      case hQ => exact fun _ _ _ h => h
      case hS => assumption
      try simp only [Act.put, List.setIfInBounds_toArray, List.set_cons_zero, List.set_cons_succ]
      apply wpAnyH_take (i := 6)
      case hi =>
        simp only [List.getElem?_toArray, List.getElem?_cons_succ, List.getElem?_cons_zero]
        exact rfl
      case hs => kernel_rfl
      case hf => kernel_rfl
      case hr => kernel_rfl
      case hy =>
        refine Or.inl ⟨by rfl, ?_⟩
        intro w hSw
        (try dsimp only at hSw)
        first | (go_simp; done) | (go_simp; with_reducible rfl)
      case hQ => exact fun _ _ _ h => h
      case hS => assumption
      try simp only [Act.put, List.setIfInBounds_toArray, List.set_cons_zero, List.set_cons_succ]
      apply wpAnyH_take (i := 7)
      case hi =>
        simp only [List.getElem?_toArray, List.getElem?_cons_succ, List.getElem?_cons_zero]
        exact rfl
      case hs => kernel_rfl
      case hf => kernel_rfl
      case hr => kernel_rfl
      case hy =>
        refine Or.inl ⟨by rfl, ?_⟩
        intro w hSw
        (try dsimp only at hSw)
        first | (go_simp; done) | (go_simp; with_reducible rfl)
      case hQ => exact fun _ _ _ h => h
      case hS => assumption
      try simp only [Act.put, List.setIfInBounds_toArray, List.set_cons_zero, List.set_cons_succ]
      apply wpAnyH_take (i := 8)
      case hi =>
        simp only [List.getElem?_toArray, List.getElem?_cons_succ, List.getElem?_cons_zero]
        exact rfl
      case hs => kernel_rfl
      case hf => kernel_rfl
      case hr => kernel_rfl
      case hy =>
        refine Or.inl ⟨by rfl, ?_⟩
        intro w hSw
        (try dsimp only at hSw)
        first | (go_simp; done) | (go_simp; with_reducible rfl)
      case hQ => exact fun _ _ _ h => h
      case hS => assumption
      try simp only [Act.put, List.setIfInBounds_toArray, List.set_cons_zero, List.set_cons_succ]
      apply wpAnyH_take (i := 9)
      case hi =>
        simp only [List.getElem?_toArray, List.getElem?_cons_succ, List.getElem?_cons_zero]
        exact rfl
      case hs => kernel_rfl
      case hf => kernel_rfl
      case hr => kernel_rfl
      case hy =>
        refine Or.inl ⟨by rfl, ?_⟩
        intro w hSw
        (try dsimp only at hSw)
        first | (go_simp; done) | (go_simp; with_reducible rfl)
      case hQ => exact fun _ _ _ h => h
      case hS => assumption
      try simp only [Act.put, List.setIfInBounds_toArray, List.set_cons_zero, List.set_cons_succ]
      apply wpAnyH_take (i := 10)
      case hi =>
        simp only [List.getElem?_toArray, List.getElem?_cons_succ, List.getElem?_cons_zero]
        exact rfl
      case hs => kernel_rfl
      case hf => kernel_rfl
      case hr => kernel_rfl
      case hy =>
        refine Or.inl ⟨by rfl, ?_⟩
        intro w hSw
        (try dsimp only at hSw)
        first | (go_simp; done) | (go_simp; with_reducible rfl)
      case hQ => exact fun _ _ _ h => h
      case hS => assumption
      try simp only [Act.put, List.setIfInBounds_toArray, List.set_cons_zero, List.set_cons_succ]
      apply wpAnyH_take (i := 11)
      case hi =>
        simp only [List.getElem?_toArray, List.getElem?_cons_succ, List.getElem?_cons_zero]
        exact rfl
      case hs => kernel_rfl
      case hf => kernel_rfl
      case hr => kernel_rfl
      case hy =>
        refine Or.inl ⟨by rfl, ?_⟩
        intro w hSw
        (try dsimp only at hSw)
        first | (go_simp; done) | (go_simp; with_reducible rfl)
      case hQ => exact fun _ _ _ h => h
      case hS => assumption
      try simp only [Act.put, List.setIfInBounds_toArray, List.set_cons_zero, List.set_cons_succ]
      apply wpAnyH_take (i := 12)
      case hi =>
        simp only [List.getElem?_toArray, List.getElem?_cons_succ, List.getElem?_cons_zero]
        exact rfl
      case hs => kernel_rfl
      case hf => kernel_rfl
      case hr => kernel_rfl
      case hy =>
        refine Or.inl ⟨by rfl, ?_⟩
        intro w hSw
        (try dsimp only at hSw)
        first | (go_simp; done) | (go_simp; with_reducible rfl)
      case hQ => exact fun _ _ _ h => h
      case hS => assumption
      try simp only [Act.put, List.setIfInBounds_toArray, List.set_cons_zero, List.set_cons_succ]
      apply wpAnyH_take (i := 13)
      case hi =>
        simp only [List.getElem?_toArray, List.getElem?_cons_succ, List.getElem?_cons_zero]
        exact rfl
      case hs => kernel_rfl
      case hf => kernel_rfl
      case hr => kernel_rfl
      case hy =>
        refine Or.inl ⟨by rfl, ?_⟩
        intro w hSw
        (try dsimp only at hSw)
        first | (go_simp; done) | (go_simp; with_reducible rfl)
      case hQ => exact fun _ _ _ h => h
      case hS => assumption
      try simp only [Act.put, List.setIfInBounds_toArray, List.set_cons_zero, List.set_cons_succ]
      apply wpAnyH_take (i := 14)
      case hi =>
        simp only [List.getElem?_toArray, List.getElem?_cons_succ, List.getElem?_cons_zero]
        exact rfl
      case hs => kernel_rfl
      case hf => kernel_rfl
      case hr => kernel_rfl
      case hy =>
        refine Or.inl ⟨by rfl, ?_⟩
        intro w hSw
        (try dsimp only at hSw)
        first | (go_simp; done) | (go_simp; with_reducible rfl)
      case hQ => exact fun _ _ _ h => h
      case hS => assumption
      try simp only [Act.put, List.setIfInBounds_toArray, List.set_cons_zero, List.set_cons_succ]
      apply wpAnyH_take (i := 15)
      case hi =>
        simp only [List.getElem?_toArray, List.getElem?_cons_succ, List.getElem?_cons_zero]
        exact rfl
      case hs => kernel_rfl
      case hf => kernel_rfl
      case hr => kernel_rfl
      case hy =>
        refine Or.inl ⟨by rfl, ?_⟩
        intro w hSw
        (try dsimp only at hSw)
        first | (go_simp; done) | (go_simp; with_reducible rfl)
      case hQ => exact fun _ _ _ h => h
      case hS => assumption
      try simp only [Act.put, List.setIfInBounds_toArray, List.set_cons_zero, List.set_cons_succ]
      apply wpAnyH_take (i := 16)
      case hi =>
        simp only [List.getElem?_toArray, List.getElem?_cons_succ, List.getElem?_cons_zero]
        exact rfl
      case hs => kernel_rfl
      case hf => kernel_rfl
      case hr => kernel_rfl
      case hy =>
        refine Or.inl ⟨by rfl, ?_⟩
        intro w hSw
        (try dsimp only at hSw)
        first | (go_simp; done) | (go_simp; with_reducible rfl)
      case hQ => exact fun _ _ _ h => h
      case hS => assumption
      try simp only [Act.put, List.setIfInBounds_toArray, List.set_cons_zero, List.set_cons_succ]
      apply wpAnyH_take (i := 17)
      case hi =>
        simp only [List.getElem?_toArray, List.getElem?_cons_succ, List.getElem?_cons_zero]
        exact rfl
      case hs => kernel_rfl
      case hf => kernel_rfl
      case hr => kernel_rfl
      case hy =>
        refine Or.inl ⟨by rfl, ?_⟩
        intro w hSw
        (try dsimp only at hSw)
        first | (go_simp; done) | (go_simp; with_reducible rfl)
      case hQ => exact fun _ _ _ h => h
      case hS => assumption
      try simp only [Act.put, List.setIfInBounds_toArray, List.set_cons_zero, List.set_cons_succ]
      apply wpAnyH_take (i := 18)
      case hi =>
        simp only [List.getElem?_toArray, List.getElem?_cons_succ, List.getElem?_cons_zero]
        exact rfl
      case hs => kernel_rfl
      case hf => kernel_rfl
      case hr => kernel_rfl
      case hy =>
        refine Or.inl ⟨by rfl, ?_⟩
        intro w hSw
        (try dsimp only at hSw)
        first | (go_simp; done) | (go_simp; with_reducible rfl)
      case hQ => exact fun _ _ _ h => h
      case hS => assumption
      try simp only [Act.put, List.setIfInBounds_toArray, List.set_cons_zero, List.set_cons_succ]
      apply wpAnyH_take (i := 19)
      case hi =>
        simp only [List.getElem?_toArray, List.getElem?_cons_succ, List.getElem?_cons_zero]
        exact rfl
      case hs => kernel_rfl
      case hf => kernel_rfl
      case hr => kernel_rfl
      case hy =>
        refine Or.inl ⟨by rfl, ?_⟩
        intro w hSw
        (try dsimp only at hSw)
        first | (go_simp; done) | (go_simp; with_reducible rfl)
      case hQ => exact fun _ _ _ h => h
      case hS => assumption
      try simp only [Act.put, List.setIfInBounds_toArray, List.set_cons_zero, List.set_cons_succ]
      apply wpAnyH_take (i := 20)
      case hi =>
        simp only [List.getElem?_toArray, List.getElem?_cons_succ, List.getElem?_cons_zero]
        exact rfl
      case hs => kernel_rfl
      case hf => kernel_rfl
      case hr => kernel_rfl
      case hy =>
        refine Or.inl ⟨by rfl, ?_⟩
        intro w hSw
        (try dsimp only at hSw)
        first | (go_simp; done) | (go_simp; with_reducible rfl)
      case hQ => exact fun _ _ _ h => h
      case hS => assumption
      try simp only [Act.put, List.setIfInBounds_toArray, List.set_cons_zero, List.set_cons_succ]
      apply wpAnyH_take (i := 21)
      case hi =>
        simp only [List.getElem?_toArray, List.getElem?_cons_succ, List.getElem?_cons_zero]
        exact rfl
      case hs => kernel_rfl
      case hf => kernel_rfl
      case hr => kernel_rfl
      case hy =>
        refine Or.inl ⟨by rfl, ?_⟩
        intro w hSw
        (try dsimp only at hSw)
        first | (go_simp; done) | (go_simp; with_reducible rfl)
      case hQ => exact fun _ _ _ h => h
      case hS => assumption
      try simp only [Act.put, List.setIfInBounds_toArray, List.set_cons_zero, List.set_cons_succ]
      apply wpAnyH_take (i := 22)
      case hi =>
        simp only [List.getElem?_toArray, List.getElem?_cons_succ, List.getElem?_cons_zero]
        exact rfl
      case hs => kernel_rfl
      case hf => kernel_rfl
      case hr => kernel_rfl
      case hy =>
        refine Or.inl ⟨by rfl, ?_⟩
        intro w hSw
        (try dsimp only at hSw)
        first | (go_simp; done) | (go_simp; with_reducible rfl)
      case hQ => exact fun _ _ _ h => h
      case hS => assumption
      try simp only [Act.put, List.setIfInBounds_toArray, List.set_cons_zero, List.set_cons_succ]
      apply wpAnyH_take (i := 23)
      case hi =>
        simp only [List.getElem?_toArray, List.getElem?_cons_succ, List.getElem?_cons_zero]
        exact rfl
      case hs => kernel_rfl
      case hf => kernel_rfl
      case hr => kernel_rfl
      case hy =>
        refine Or.inl ⟨by rfl, ?_⟩
        intro w hSw
        (try dsimp only at hSw)
        first | (go_simp; done) | (go_simp; with_reducible rfl)
      case hQ => exact fun _ _ _ h => h
      case hS => assumption
      try simp only [Act.put, List.setIfInBounds_toArray, List.set_cons_zero, List.set_cons_succ]
      apply wpAnyH_take (i := 24)
      case hi =>
        simp only [List.getElem?_toArray, List.getElem?_cons_succ, List.getElem?_cons_zero]
        exact rfl
      case hs => kernel_rfl
      case hf => kernel_rfl
      case hr => kernel_rfl
      case hy =>
        refine Or.inl ⟨by rfl, ?_⟩
        intro w hSw
        (try dsimp only at hSw)
        first | (go_simp; done) | (go_simp; with_reducible rfl)
      case hQ => exact fun _ _ _ h => h
      case hS => assumption
      try simp only [Act.put, List.setIfInBounds_toArray, List.set_cons_zero, List.set_cons_succ]
      apply wpAnyH_take (i := 25)
      case hi =>
        simp only [List.getElem?_toArray, List.getElem?_cons_succ, List.getElem?_cons_zero]
        exact rfl
      case hs => kernel_rfl
      case hf => kernel_rfl
      case hr => kernel_rfl
      case hy =>
        refine Or.inl ⟨by rfl, ?_⟩
        intro w hSw
        (try dsimp only at hSw)
        first | (go_simp; done) | (go_simp; with_reducible rfl)
      case hQ => exact fun _ _ _ h => h
      case hS => assumption
      try simp only [Act.put, List.setIfInBounds_toArray, List.set_cons_zero, List.set_cons_succ]
      apply wpAnyH_take (i := 26)
      case hi =>
        simp only [List.getElem?_toArray, List.getElem?_cons_succ, List.getElem?_cons_zero]
        exact rfl
      case hs => kernel_rfl
      case hf => kernel_rfl
      case hr => kernel_rfl
      case hy =>
        refine Or.inl ⟨by rfl, ?_⟩
        intro w hSw
        (try dsimp only at hSw)
        first | (go_simp; done) | (go_simp; with_reducible rfl)
      case hQ => exact fun _ _ _ h => h
      case hS => assumption
      try simp only [Act.put, List.setIfInBounds_toArray, List.set_cons_zero, List.set_cons_succ]
      apply wpAnyH_take (i := 27)
      case hi =>
        simp only [List.getElem?_toArray, List.getElem?_cons_succ, List.getElem?_cons_zero]
        exact rfl
      case hs => kernel_rfl
      case hf => kernel_rfl
      case hr => kernel_rfl
      case hy =>
        refine Or.inl ⟨by rfl, ?_⟩
        intro w hSw
        (try dsimp only at hSw)
        first | (go_simp; done) | (go_simp; with_reducible rfl)
      case hQ => exact fun _ _ _ h => h
      case hS => assumption
      try simp only [Act.put, List.setIfInBounds_toArray, List.set_cons_zero, List.set_cons_succ]
      refine wpAnyH_ready (rs := [28]) (by kernel_rfl) (by simp) ?_
      apply AllReadyH.cons
      case ho =>
        simp only [List.getElem?_toArray, List.getElem?_cons_succ, List.getElem?_cons_zero]
        exact rfl
      case hs => exact AllReadyH.nil
      intro K hK
      go_simp
      simp only [if_neg (show ¬ ((k : Int) < 0) by omega)]
      refine hK.out _ _ (KS.out _ (by repeat (first | with_reducible exact Below.refl _ _ | with_reducible assumption | with_reducible refine Below.drew ?_ | with_reducible refine below_drewN ?_ _ | with_reducible refine Below.setCell ?_ (by first | omega | (simp <;> omega)) _ | with_reducible refine Below.alloc ?_ (by first | omega | (simp <;> omega)) _))) (fun hHeld => ?_)
      clear hK K
      try simp only [Act.put, List.setIfInBounds_toArray, List.set_cons_zero, List.set_cons_succ]
      apply wpAnyH_take (i := 29)
      case hi =>
        simp only [List.getElem?_toArray, List.getElem?_cons_succ, List.getElem?_cons_zero]
        exact rfl
      case hs => kernel_rfl
      case hf => kernel_rfl
      case hr => kernel_rfl
      case hy =>
        refine Or.inl ⟨by rfl, ?_⟩
        intro w hSw
        (try dsimp only at hSw)
        first | (go_simp; done) | (go_simp; with_reducible rfl)
      case hQ => exact fun _ _ _ h => h
      case hS => assumption
      try simp only [Act.put, List.setIfInBounds_toArray, List.set_cons_zero, List.set_cons_succ]
      apply wpAnyH_take (i := 30)
      case hi =>
        simp only [List.getElem?_toArray, List.getElem?_cons_succ, List.getElem?_cons_zero]
        exact rfl
      case hs => kernel_rfl
      case hf => kernel_rfl
      case hr => kernel_rfl
      case hy =>
        refine Or.inl ⟨by rfl, ?_⟩
        intro w hSw
        (try dsimp only at hSw)
        first | (go_simp; done) | (go_simp; with_reducible rfl)
      case hQ => exact fun _ _ _ h => h
      case hS => assumption
      try simp only [Act.put, List.setIfInBounds_toArray, List.set_cons_zero, List.set_cons_succ]
      apply wpAnyH_take (i := 31)
      case hi =>
        simp only [List.getElem?_toArray, List.getElem?_cons_succ, List.getElem?_cons_zero]
        exact rfl
      case hs => kernel_rfl
      case hf => kernel_rfl
      case hr => kernel_rfl
      case hy =>
        refine Or.inl ⟨by rfl, ?_⟩
        intro w hSw
        (try dsimp only at hSw)
        first | (go_simp; done) | (go_simp; with_reducible rfl)
      case hQ => exact fun _ _ _ h => h
      case hS => assumption
      try simp only [Act.put, List.setIfInBounds_toArray, List.set_cons_zero, List.set_cons_succ]
      apply wpAnyH_take (i := 32)
      case hi =>
        simp only [List.getElem?_toArray, List.getElem?_cons_succ, List.getElem?_cons_zero]
        exact rfl
      case hs => kernel_rfl
      case hf => kernel_rfl
      case hr => kernel_rfl
      case hy =>
        refine Or.inl ⟨by rfl, ?_⟩
        intro w hSw
        (try dsimp only at hSw)
        first | (go_simp; done) | (go_simp; with_reducible rfl)
      case hQ => exact fun _ _ _ h => h
      case hS => assumption
      try simp only [Act.put, List.setIfInBounds_toArray, List.set_cons_zero, List.set_cons_succ]
      apply wpAnyH_take (i := 33)
      case hi =>
        simp only [List.getElem?_toArray, List.getElem?_cons_succ, List.getElem?_cons_zero]
        exact rfl
      case hs => kernel_rfl
      case hf => kernel_rfl
      case hr => kernel_rfl
      case hy =>
        refine Or.inl ⟨by rfl, ?_⟩
        intro w hSw
        (try dsimp only at hSw)
        first | (go_simp; done) | (go_simp; with_reducible rfl)
      case hQ => exact fun _ _ _ h => h
      case hS => assumption
      try simp only [Act.put, List.setIfInBounds_toArray, List.set_cons_zero, List.set_cons_succ]
      apply wpAnyH_take (i := 34) (v := undef)
      case hi =>
        simp only [List.getElem?_toArray, List.getElem?_cons_succ, List.getElem?_cons_zero]
        exact rfl
      case hs => kernel_rfl
      case hf => kernel_rfl
      case hr => kernel_rfl
      case hy => exact Or.inr ⟨by rfl, rfl⟩
      case hQ => exact fun _ _ _ h => h
      case hS => assumption
      try simp only [Act.put, List.setIfInBounds_toArray, List.set_cons_zero, List.set_cons_succ]
      apply wpAnyH_take (i := 35) (v := undef)
      case hi =>
        simp only [List.getElem?_toArray, List.getElem?_cons_succ, List.getElem?_cons_zero]
        exact rfl
      case hs => kernel_rfl
      case hf => kernel_rfl
      case hr => kernel_rfl
      case hy => exact Or.inr ⟨by rfl, rfl⟩
      case hQ => exact fun _ _ _ h => h
      case hS => assumption
      try simp only [Act.put, List.setIfInBounds_toArray, List.set_cons_zero, List.set_cons_succ]
      apply wpAnyH_take (i := 36) (v := undef)
      case hi =>
        simp only [List.getElem?_toArray, List.getElem?_cons_succ, List.getElem?_cons_zero]
        exact rfl
      case hs => kernel_rfl
      case hf => kernel_rfl
      case hr => kernel_rfl
      case hy => exact Or.inr ⟨by rfl, rfl⟩
      case hQ => exact fun _ _ _ h => h
      case hS => assumption
      try simp only [Act.put, List.setIfInBounds_toArray, List.set_cons_zero, List.set_cons_succ]
      apply wpAnyH_take (i := 37) (v := undef)
      case hi =>
        simp only [List.getElem?_toArray, List.getElem?_cons_succ, List.getElem?_cons_zero]
        exact rfl
      case hs => kernel_rfl
      case hf => kernel_rfl
      case hr => kernel_rfl
      case hy => exact Or.inr ⟨by rfl, rfl⟩
      case hQ => exact fun _ _ _ h => h
      case hS => assumption
      try simp only [Act.put, List.setIfInBounds_toArray, List.set_cons_zero, List.set_cons_succ]
      apply wpAnyH_take (i := 38) (v := undef)
      case hi =>
        simp only [List.getElem?_toArray, List.getElem?_cons_succ, List.getElem?_cons_zero]
        exact rfl
      case hs => kernel_rfl
      case hf => kernel_rfl
      case hr => kernel_rfl
      case hy => exact Or.inr ⟨by rfl, rfl⟩
      case hQ => exact fun _ _ _ h => h
      case hS => assumption
      try simp only [Act.put, List.setIfInBounds_toArray, List.set_cons_zero, List.set_cons_succ]
      apply wpAnyH_take (i := 39) (v := undef)
      case hi =>
        simp only [List.getElem?_toArray, List.getElem?_cons_succ, List.getElem?_cons_zero]
        exact rfl
      case hs => kernel_rfl
      case hf => kernel_rfl
      case hr => kernel_rfl
      case hy => exact Or.inr ⟨by rfl, rfl⟩
      case hQ => exact fun _ _ _ h => h
      case hS => assumption
      try simp only [Act.put, List.setIfInBounds_toArray, List.set_cons_zero, List.set_cons_succ]
      apply wpAnyH_take (i := 40) (v := undef)
      case hi =>
        simp only [List.getElem?_toArray, List.getElem?_cons_succ, List.getElem?_cons_zero]
        exact rfl
      case hs => kernel_rfl
      case hf => kernel_rfl
      case hr => kernel_rfl
      case hy => exact Or.inr ⟨by rfl, rfl⟩
      case hQ => exact fun _ _ _ h => h
      case hS => assumption
      try simp only [Act.put, List.setIfInBounds_toArray, List.set_cons_zero, List.set_cons_succ]
      apply wpAnyH_take (i := 41)
      case hi =>
        simp only [List.getElem?_toArray, List.getElem?_cons_succ, List.getElem?_cons_zero]
        exact rfl
      case hs => kernel_rfl
      case hf => kernel_rfl
      case hr => kernel_rfl
      case hy =>
        refine Or.inl ⟨by rfl, ?_⟩
        intro w hSw
        (try dsimp only at hSw)
        first | (go_simp; done) | (go_simp; with_reducible rfl)
      case hQ => exact fun _ _ _ h => h
      case hS => assumption
      try simp only [Act.put, List.setIfInBounds_toArray, List.set_cons_zero, List.set_cons_succ]
      apply wpAnyH_take (i := 42)
      case hi =>
        simp only [List.getElem?_toArray, List.getElem?_cons_succ, List.getElem?_cons_zero]
        exact rfl
      case hs => kernel_rfl
      case hf => kernel_rfl
      case hr => kernel_rfl
      case hy =>
        refine Or.inl ⟨by rfl, ?_⟩
        intro w hSw
        (try dsimp only at hSw)
        first | (go_simp; done) | (go_simp; with_reducible rfl)
      case hQ => exact fun _ _ _ h => h
      case hS => assumption
      try simp only [Act.put, List.setIfInBounds_toArray, List.set_cons_zero, List.set_cons_succ]
      apply wpAnyH_take (i := 43)
      case hi =>
        simp only [List.getElem?_toArray, List.getElem?_cons_succ, List.getElem?_cons_zero]
        exact rfl
      case hs => kernel_rfl
      case hf => kernel_rfl
      case hr => kernel_rfl
      case hy =>
        refine Or.inl ⟨by rfl, ?_⟩
        intro w hSw
        (try dsimp only at hSw)
        first | (go_simp; done) | (go_simp; with_reducible rfl)
      case hQ => exact fun _ _ _ h => h
      case hS => assumption
      try simp only [Act.put, List.setIfInBounds_toArray, List.set_cons_zero, List.set_cons_succ]
      refine wpAnyH_ready (rs := [44]) (by kernel_rfl) (by simp) ?_
      apply AllReadyH.cons
      case ho =>
        simp only [List.getElem?_toArray, List.getElem?_cons_succ, List.getElem?_cons_zero]
        exact rfl
      case hs => exact AllReadyH.nil
      intro K hK
      go_simp
      refine (known_any _).mono ?_; rintro e wn ⟨rfl, hbn⟩; have hbN := below_next (v := W3) (by repeat (first | with_reducible exact Below.refl _ _ | with_reducible assumption | with_reducible refine Below.drew ?_ | with_reducible refine below_drewN ?_ _ | with_reducible refine Below.setCell ?_ (by first | omega | (simp <;> omega)) _ | with_reducible refine Below.alloc ?_ (by first | omega | (simp <;> omega)) _)) hbn; have hsN := hbN.size; clear hbn
      refine hK.out _ _ (KS.out _ (by repeat (first | with_reducible exact Below.refl _ _ | with_reducible assumption | with_reducible refine Below.drew ?_ | with_reducible refine below_drewN ?_ _ | with_reducible refine Below.setCell ?_ (by first | omega | (simp <;> omega)) _ | with_reducible refine Below.alloc ?_ (by first | omega | (simp <;> omega)) _))) (fun hHeld => ?_)
      clear hK K
      try simp only [Act.put, List.setIfInBounds_toArray, List.set_cons_zero, List.set_cons_succ]
      apply wpAnyH_take (i := 45)
      case hi =>
        simp only [List.getElem?_toArray, List.getElem?_cons_succ, List.getElem?_cons_zero]
        exact rfl
      case hs => kernel_rfl
      case hf => kernel_rfl
      case hr => kernel_rfl
      case hy =>
        refine Or.inl ⟨by rfl, ?_⟩
        intro w hSw
        (try dsimp only at hSw)
        first | (go_simp; done) | (go_simp; with_reducible rfl)
      case hQ => exact fun _ _ _ h => h
      case hS => assumption
      try simp only [Act.put, List.setIfInBounds_toArray, List.set_cons_zero, List.set_cons_succ]
      apply wpAnyH_take (i := 46)
      case hi =>
        simp only [List.getElem?_toArray, List.getElem?_cons_succ, List.getElem?_cons_zero]
        exact rfl
      case hs => kernel_rfl
      case hf => kernel_rfl
      case hr => kernel_rfl
      case hy =>
        refine Or.inl ⟨by rfl, ?_⟩
        intro w hSw
        (try dsimp only at hSw)
        first | (go_simp; done) | (go_simp; with_reducible rfl)
      case hQ => exact fun _ _ _ h => h
      case hS => assumption
      try simp only [Act.put, List.setIfInBounds_toArray, List.set_cons_zero, List.set_cons_succ]
      refine wpAnyH_done (by kernel_rfl) ?_ _
      go_wp2_with fail
      go_ret
      exact ⟨rfl, HBW.out.trans (Below.mono (B := W3.heap.size) (by repeat (first | with_reducible exact Below.refl _ _ | with_reducible assumption | with_reducible refine Below.drew ?_ | with_reducible refine below_drewN ?_ _ | with_reducible refine Below.setCell ?_ (by first | omega | (simp <;> omega)) _ | with_reducible refine Below.alloc ?_ (by first | omega | (simp <;> omega)) _)) HBW.out.size)⟩
end Go.Proofs.Ytongakhcmdkeiaa

