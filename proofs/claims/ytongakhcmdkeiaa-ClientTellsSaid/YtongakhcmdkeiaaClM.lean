/- The document's Act: the walk. Printed by gen_act.py. Conditions: those that each theorem states. -/
import Derived.Test.YtongakhcmdkeiaaClL
import Derived.Test.YtongakhcmdkeiaaApp
import Derived.Deep.RegionHeld3
namespace Go.Proofs.Ytongakhcmdkeiaa
open Go.RowKit

theorem oneM_bad {L : List Cl} {a id pos : Int} {off : Bool} (h : rightB L = false ∨ id < 1 ∨ 1073741824 < id ∨ (a = 0 ∨ a = 2) ∧ (pos < 0 ∨ 1099511627776 < pos)) : oneM L a id pos off = ([], 1) := by
  have hk : rightB L = false ∨ id < 1 ∨ 1073741824 < id → (knownM L id 0) = (0, 1) := fun h => by
    unfold knownM
    have : (rightB L && mayB id 0) = false := by
      rcases h with h | h | h
      · rw [h]; rfl
      · rw [mayB_no (by omega), Bool.and_false]
      · rw [mayB_no (by omega), Bool.and_false]
    rw [this]; rfl
  have hp : (rightB L = false ∨ id < 1 ∨ 1073741824 < id ∨ pos < 0 ∨ 1099511627776 < pos) → (rightB L && mayB id pos) = false := fun h => by
    rcases h with h | h | h | h | h
    · rw [h]; rfl
    all_goals rw [mayB_no (by omega), Bool.and_false]
  have h4 : rightB L = false ∨ id < 1 ∨ 1073741824 < id ∨ pos < 0 ∨ 1099511627776 < pos := by
    rcases h with h | h | h | ⟨_, h⟩
    · exact .inl h
    · exact .inr (.inl h)
    · exact .inr (.inr (.inl h))
    · exact .inr (.inr (.inr h))
  have h3 : ¬ (a = 0 ∨ a = 2) → rightB L = false ∨ id < 1 ∨ 1073741824 < id := fun hn => by
    rcases h with h | h | h | ⟨h, _⟩
    · exact .inl h
    · exact .inr (.inl h)
    · exact .inr (.inr h)
    · exact absurd h hn
  unfold oneM
  split
  · unfold addM
    rw [hp h4]; rfl
  · split
    · unfold dropM; rw [hk (h3 (by omega))]; rfl
    · split
      · unfold commitM knownM; rw [hp h4]; rfl
      · unfold turnM; rw [hk (h3 (by omega))]; rfl
theorem fidx_eq {id : Int} : ∀ {L : List Cl} {last : Int}, rightFrom last L = true → fidx id L = if inB id L then some (placeN id L) else none
  | [], _, _ => rfl
  | (i, p, f) :: r, last, h => by
    rw [rf_cons] at h
    by_cases hi : id ≤ i
    · have e : placeN id ((i, p, f) :: r) = 0 := by simp [placeN, hi]
      rw [inB_at (k := 0) (p := p) (f := f) rfl e, e]
      by_cases he : i = id
      · simp [fidx, he]
      · simp only [fidx, if_neg he]
        have hn : inB id r = false := by rw [inB_find h.2.2, findC_none h.2.2 hi]; rfl
        rw [fidx_eq h.2.2, hn]
        simp [he]
    · have e : placeN id ((i, p, f) :: r) = placeN id r + 1 := by simp [placeN, hi]
      have e2 : inB id ((i, p, f) :: r) = inB id r := by
        unfold inB
        rw [e, List.getElem?_cons_succ]
      rw [e2, e]
      simp only [fidx]
      rw [if_neg (by omega), fidx_eq h.2.2]
      cases inB id r <;> simp
theorem fidI_yes {id : Int} {L : List Cl} (h : rightB L = true) (hi : inB id L = true) : fidI id L = (placeN id L : Nat) := by
  unfold fidI; rw [fidx_eq (rightB_from h), hi]; rfl
theorem fidI_no {id : Int} {L : List Cl} (h : rightB L = true) (hi : inB id L = false) : fidI id L = -1 := by
  unfold fidI; rw [fidx_eq (rightB_from h), hi]; rfl
theorem reads_at_new {w : World} {g : Nat} {t : TypeId} {x y z : Value} (h : g = w.heap.size) : Reads (w.alloc (.cells #[x, y, z] t)) (w.alloc (.cells #[x, y, z] t)).heap.size 3 (some ⟨g, 0, none⟩) 1 1 [x, y, z] := reads_blk3 (blk_new h)
theorem old_ {w : World} {k : Nat} {o u : Obj} (h : w.heap[k]? = some o) : (w.alloc u).heap[k]? = some o := (blk_old (blk_lt h)).trans h
theorem drew_ {w : World} {k : Nat} {o : Obj} (h : w.heap[k]? = some o) : w.drew.heap[k]? = some o := h
theorem reads_zero {w : World} {B size c : Nat} {a : Addr} (h : c ≤ maxLen) : Reads w B size (some a) 0 c [] := ⟨by simp, Nat.zero_le _, h, fun e => (by cases e), fun e => absurd e (Nat.lt_irrefl _)⟩

set_option maxRecDepth 20000 in
set_option maxHeartbeats 2000000 in
theorem ract_bad (A : Option Addr) (n c : Nat) (L : List Cl) (a id pos : Int) (off : Bool) (w : World) (h : ClAt w A n c L) (hb : rightB L = false ∨ id < 1 ∨ 1073741824 < id ∨ (a = 0 ∨ a = 2) ∧ (pos < 0 ∨ 1099511627776 < pos)) :
    Calls Try.prog 16 #[.slice A n c, .int .i64 a, .int .i64 id, .int .i64 pos, .bool off] w fun e w' => OneRes w (oneM L a id pos off) e w' := by
  have E := Lib.hid (oneM_bad (off := off) hb)
  have HBAD := Lib.hid hb
  clear hb
  cases hr : rightB L
  · go_enter Try.func16, Try.ntmps16
    go_wp2_with fail
    refine (rright_any _ _ _ L _ h).mono ?_
    rintro e w1 ⟨rfl, hb1⟩
    rw [hr]
    go_wp2_with fail
    refine bodyPost_ret (v := .tuple #[.slice none 0 0, .int .i64 1]) (by simp [results, Try.results16, go_sem]) rfl ?_
    rw [E.out]
    exact one_none 1 rfl hb1
  by_cases d1 : id < 1
  · have e1 : decide (id < 1) = true := dec_yes d1
    go_enter Try.func16, Try.ntmps16
    go_wp2_with fail
    refine (rright_any _ _ _ L _ h).mono ?_
    rintro e w1 ⟨rfl, hb1⟩
    rw [hr]
    go_wp2_with fail
    refine bodyPost_ret (v := .tuple #[.slice none 0 0, .int .i64 1]) (by simp [results, Try.results16, go_sem]) rfl ?_
    rw [E.out]
    exact one_none 1 rfl hb1
  by_cases d2 : 1073741824 < id
  · have e1 : decide (id < 1) = false := dec_no d1
    have e2 : decide (1073741824 < id) = true := dec_yes d2
    go_enter Try.func16, Try.ntmps16
    go_wp2_with fail
    refine (rright_any _ _ _ L _ h).mono ?_
    rintro e w1 ⟨rfl, hb1⟩
    rw [hr]
    go_wp2_with fail
    refine bodyPost_ret (v := .tuple #[.slice none 0 0, .int .i64 1]) (by simp [results, Try.results16, go_sem]) rfl ?_
    rw [E.out]
    exact one_none 1 rfl hb1
  have e1 : decide (id < 1) = false := dec_no d1
  have e2 : decide (1073741824 < id) = false := dec_no d2
  have hx : (a = 0 ∨ a = 2) ∧ (pos < 0 ∨ 1099511627776 < pos) := by
    rcases HBAD.out with h | h | h | h
    · rw [hr] at h; cases h
    · exact absurd h d1
    · exact absurd h d2
    · exact h
  clear HBAD
  rcases hx with ⟨rfl | rfl, hp⟩
  all_goals
    by_cases d3 : pos < 0
    · have e3 : decide (pos < 0) = true := dec_yes d3
      go_enter Try.func16, Try.ntmps16
      go_wp2_with fail
      refine (rright_any _ _ _ L _ h).mono ?_
      rintro e w1 ⟨rfl, hb1⟩
      rw [hr]
      go_wp2_with fail
      refine bodyPost_ret (v := .tuple #[.slice none 0 0, .int .i64 1]) (by simp [results, Try.results16, go_sem]) rfl ?_
      rw [E.out]
      exact one_none 1 rfl hb1
    · have e3 : decide (pos < 0) = false := dec_no d3
      have e4 : decide (1099511627776 < pos) = true := dec_yes (by omega)
      clear hp
      go_enter Try.func16, Try.ntmps16
      go_wp2_with fail
      refine (rright_any _ _ _ L _ h).mono ?_
      rintro e w1 ⟨rfl, hb1⟩
      rw [hr]
      go_wp2_with fail
      refine bodyPost_ret (v := .tuple #[.slice none 0 0, .int .i64 1]) (by simp [results, Try.results16, go_sem]) rfl ?_
      rw [E.out]
      exact one_none 1 rfl hb1

set_option maxRecDepth 20000 in
set_option maxHeartbeats 4000000 in
theorem ract_add (A : Option Addr) (n c : Nat) (L : List Cl) (id pos : Int) (off : Bool) (w : World) (h : ClAt w A n c L) (hA : A = none ∨ (∃ b o, A = some ⟨b, o, none⟩) ∨ (∃ ad, A = some ad ∧ c = 0)) (hr : rightB L = true) (hm : 1 ≤ id ∧ id ≤ 1073741824) (hp : 0 ≤ pos ∧ pos ≤ 1099511627776) :
    Calls Try.prog 16 #[.slice A n c, .int .i64 0, .int .i64 id, .int .i64 pos, .bool off] w fun e w' => OneRes w (oneM L 0 id pos off) e w' := by
  have hlen := cl_length h
  have hn : n ≤ 4 := by have := rightB_len hr; omega
  have hcm := h.max
  have HCM := Lib.hid h.2.2.1
  obtain ⟨i0, hi0, hz0, hz1, hz2⟩ := info_parts info42
  have e1 : decide (id < 1) = false := dec_no (by omega)
  have e2 : decide (1073741824 < id) = false := dec_no (by omega)
  have e3 : decide (pos < 0) = false := dec_no (by omega)
  have e4 : decide (1099511627776 < pos) = false := dec_no (by omega)
  have hmay : mayB id pos = true := mayB_mk (by omega)
  have hone : oneM L 0 id pos off = addM L id pos := rfl
  have HLN := Lib.hid hlen
  have HR := Lib.hid hr
  cases hi : inB id L
  · have hf : fidI id L = -1 := fidI_no hr hi
    by_cases h4 : n = 4
    · have h4L : L.length = 4 := by omega
      have g4 : ((n : Int) == 4) = true := by subst h4; rfl
      have E : Hid (oneM L 0 id pos off = ([], 6)) := Lib.hid (by rw [hone]; simp [addM, hr, hmay, hi, h4L])
      clear hone hmay hi h4L hlen hr h4
      go_enter Try.func16, Try.ntmps16
      go_wp2_with fail
      refine (rright_any _ _ _ L _ h).mono ?_
      rintro e w1 ⟨rfl, hb1⟩
      rw [HR.out]
      go_wp2_with fail
      refine (rfind_any A n c L id _ (h.next hb1)).mono ?_
      rintro e w2 ⟨rfl, rfl⟩
      rw [hf]
      have HC2 := Lib.hid (h.next hb1)
      have hbw1 := hb1
      go_wp2_with (at_builtin; go_loud (refine wpList_append_reads _ rfl (.tmp 45) (.tmp 46) 24 rfl w1.heap.size 42 i0 _ 3 24 Try.underlying24 hi0 hz0 hz1 hz2 rfl (by decide) (.slice (some ⟨w1.heap.size, 0, none⟩) 0 0) 0 [] rfl (World.ownsRow_made w1 #[] 0 (Nat.le_refl _) (Nat.zero_le _) (by simp)) w1.heap.size A n c (clc L) rfl (HC2.out.alloc (Nat.le_refl _) _) (clc_oneCell _) (by simp only [maxLen]; omega) (by omega) (by simp) ?_; intro A3 c3 w3 hown3 _ hb3 _; rw [Nat.zero_add, List.nil_append] at hown3; have hbw3 := hbw1.trans (Below.mono (B := w1.heap.size) (Below.trans (Below.alloc (Below.refl _ _) (Nat.le_refl _) _) hb3) hbw1.size); rw [Nat.zero_add]))
      refine bodyPost_ret (v := .tuple #[.slice none 0 0, .int .i64 6]) (by simp [results, Try.results16, go_sem]) rfl ?_
      rw [E.out]
      exact one_none 6 rfl hbw3
    · have h4L : ¬ L.length = 4 := by omega
      have g4 : ((n : Int) == 4) = false := by simp; omega
      have E0 : oneM L 0 id pos off = (insC L (placeN id L) (id, pos, false), 0) := by rw [hone]; simp [addM, hr, hmay, hi, h4L]
      have E0H := Lib.hid E0
      clear hone hmay hi h4L hlen hr E0
      go_enter Try.func16, Try.ntmps16
      go_wp2_with fail
      refine (rright_any _ _ _ L _ h).mono ?_
      rintro e w1 ⟨rfl, hb1⟩
      rw [HR.out]
      go_wp2_with fail
      refine (rfind_any A n c L id _ (h.next hb1)).mono ?_
      rintro e w2 ⟨rfl, rfl⟩
      rw [hf]
      have HC2 := Lib.hid (h.next hb1)
      have hbw1 := hb1
      go_wp2_with (at_builtin; go_loud (refine wpList_append_reads _ rfl (.tmp 45) (.tmp 46) 24 rfl w1.heap.size 42 i0 _ 3 24 Try.underlying24 hi0 hz0 hz1 hz2 rfl (by decide) (.slice (some ⟨w1.heap.size, 0, none⟩) 0 0) 0 [] rfl (World.ownsRow_made w1 #[] 0 (Nat.le_refl _) (Nat.zero_le _) (by simp)) w1.heap.size A n c (clc L) rfl (HC2.out.alloc (Nat.le_refl _) _) (clc_oneCell _) (by simp only [maxLen]; omega) (by omega) (by simp) ?_; intro A3 c3 w3 hown3 _ hb3 _; rw [Nat.zero_add, List.nil_append] at hown3; have hbw3 := hbw1.trans (Below.mono (B := w1.heap.size) (Below.trans (Below.alloc (Below.refl _ _) (Nat.le_refl _) _) hb3) hbw1.size); rw [Nat.zero_add]))
      have hc3 : ClAt w3 A n c L := h.next hbw3
      have HC3 := Lib.hid hc3
      clear hown3 hb3
      go_loopg [14] n (fun gk i wr => ∃ k : Nat, k + gk = n ∧ i = .int .i64 (k : Nat) ∧ w3 = wr ∧ Hid (placeN id L = k + placeN id (L.drop k)))
      case atStart => exact ⟨0, by omega, rfl, rfl, Lib.hid (by simp)⟩
      case round =>
        obtain ⟨k, hk, rfl, rfl, HP⟩ := hrel
        have HK := Lib.hid hk
        have hkn : k ≤ n := by omega
        clear hk
        by_cases hlt : k < n
        · obtain ⟨b, o, ci, cp, cf, rfl, hbb, hx, x0, x1, x2⟩ := cl_at hc3 hlt
          have HX := Lib.hid hx
          have b0 : (0 : Int) ≤ (k : Int) := by omega
          have bk : (k : Int) < (n : Int) := by omega
          clear hx
          by_cases hge : id ≤ ci
          · have ep : placeN id L = k := by rw [HP.out, placeN_at HX.out, if_pos hge]; rfl
            have E0' := E0H.out
            rw [ep] at E0'
            have E := Lib.hid E0'
            have dl : decide (ci < id) = false := dec_no (by omega)
            have hcx := HC3.out.2.1
            obtain ⟨Ad, hAd0, hD⟩ := Reads.drop_ hc3 (k := k) (by omega)
            have hTk := Reads.take hc3 (k := k) (by omega) (by decide)
            rw [← clc_take] at hTk
            rw [← clc_drop] at hD
            have HTK := Lib.hid hTk
            have HD := Lib.hid hD
            have HAD := Lib.hid hAd0
            clear ep E0' hTk hD hAd0 hc3 h
            have bc : k ≤ c := by omega
            go_wp2_with fail
            have hAd := HAD.out
            go_region_held3 (fun _ => True)
              (exact trivial)
              (first
                | (refine step_append_0 rfl (.tmp 70) (.tmp 73) 24 rfl w3.heap.size 42 i0 _ 3 24 Try.underlying24 hi0 hz0 hz1 hz2 rfl (by decide) _ (by rfl) _ (some ⟨b, o, none⟩) k c (clc (L.take k)) (by first | rfl | simp [Act.eval, Act.put] | simp [Act.eval, Act.put, hAd]) (HTK.out.next (by repeat (first | with_reducible exact Below.refl _ _ | with_reducible assumption | with_reducible refine Below.drew ?_ | with_reducible refine below_drewN ?_ _ | with_reducible refine Below.setCell ?_ (by first | omega | (simp <;> omega)) _ | with_reducible refine Below.alloc ?_ (by first | omega | (simp <;> omega)) _))) (by first | exact clc_oneCell _ | (intro u hu; exact clc_oneCell _ u (List.mem_of_mem_take hu)) | (intro u hu; exact clc_oneCell _ u (List.mem_of_mem_drop hu))) (by simp only [maxLen]; omega) (by omega) (by first | omega | (simp <;> omega)) ?_; intro A5 c5 w5 r1 hb5; have hbA := below_next (v := w3) (by repeat (first | with_reducible exact Below.refl _ _ | with_reducible assumption | with_reducible refine Below.drew ?_ | with_reducible refine below_drewN ?_ _ | with_reducible refine Below.setCell ?_ (by first | omega | (simp <;> omega)) _ | with_reducible refine Below.alloc ?_ (by first | omega | (simp <;> omega)) _)) hb5; have hsA := hbA.size)
                | (refine step_append_E rfl (.tmp 74) (.tmp 78) 24 rfl w3.heap.size 42 i0 _ 3 24 Try.underlying24 hi0 hz0 hz1 hz2 rfl (by decide) A5 k c5 (clc (L.take k)) (by first | rfl | simp [Act.eval, Act.put] | simp [Act.eval, Act.put, hAd]) (by first | exact r1 | exact r1.drew | exact r1.alloc _ | exact OwnE.drew (r1.alloc _) | exact (OwnE.drew r1).alloc _ | exact OwnE.drew (OwnE.drew r1) | exact OwnE.drew (OwnE.drew (r1.alloc _)) | exact OwnE.drew ((OwnE.drew r1).alloc _) | exact (OwnE.drew (OwnE.drew r1)).alloc _) _ _ 1 1 [.int .i64 id, .int .i64 pos, .bool false] (by first | rfl | simp [Act.eval, Act.put] | simp [Act.eval, Act.put, hAd]) (reads_blk3 (by repeat (first | with_reducible exact blk_new (by first | rfl | (simp; done) | omega) | with_reducible refine drew_ ?_ | with_reducible refine old_ ?_ | (refine (hb5.block _ ?_).trans ?_; (focus (first | (omega; done) | (simp; done) | (simp; omega; done))))))) (by intro u hu; simp at hu; rcases hu with rfl | rfl | rfl <;> rfl) (by simp only [maxLen]; omega) (by omega) (by first | omega | (simp <;> omega)) ?_; intro A6 c6 w6 r2 g6 hb6; have hbB := Below.trans (B := w3.heap.size) (a := w3) (by repeat (first | with_reducible exact Below.refl _ _ | with_reducible assumption | with_reducible refine Below.drew ?_ | with_reducible refine below_drewN ?_ _ | with_reducible refine Below.setCell ?_ (by first | omega | (simp <;> omega)) _ | with_reducible refine Below.alloc ?_ (by first | omega | (simp <;> omega)) _)) hb6; have hsB := hbB.size; clear hb6 g6)
                | (refine step_append_E rfl (.tmp 79) (.tmp 82) 24 rfl w3.heap.size 42 i0 _ 3 24 Try.underlying24 hi0 hz0 hz1 hz2 rfl (by decide) A6 (k + 1) c6 (clc (L.take k) ++ [.int .i64 id, .int .i64 pos, .bool false]) (by first | rfl | simp [Act.eval, Act.put] | simp [Act.eval, Act.put, hAd]) (by first | exact r2 | exact r2.drew | exact r2.alloc _ | exact OwnE.drew (r2.alloc _) | exact (OwnE.drew r2).alloc _ | exact OwnE.drew (OwnE.drew r2) | exact OwnE.drew (OwnE.drew (r2.alloc _)) | exact OwnE.drew ((OwnE.drew r2).alloc _) | exact (OwnE.drew (OwnE.drew r2)).alloc _) _ (some Ad) (n - k) (c - k) (clc (L.drop k)) (by first | rfl | simp [Act.eval, Act.put] | simp [Act.eval, Act.put, hAd]) (HD.out.next (by repeat (first | with_reducible exact Below.refl _ _ | with_reducible assumption | with_reducible refine Below.drew ?_ | with_reducible refine below_drewN ?_ _ | with_reducible refine Below.setCell ?_ (by first | omega | (simp <;> omega)) _ | with_reducible refine Below.alloc ?_ (by first | omega | (simp <;> omega)) _))) (by first | exact clc_oneCell _ | (intro u hu; exact clc_oneCell _ u (List.mem_of_mem_take hu)) | (intro u hu; exact clc_oneCell _ u (List.mem_of_mem_drop hu))) (by simp only [maxLen]; omega) (by omega) (by first | omega | (simp <;> omega)) ?_; intro A7 c7 w7 r3 g7 hb7; have hbC := Below.trans (B := w3.heap.size) (a := w3) (by repeat (first | with_reducible exact Below.refl _ _ | with_reducible assumption | with_reducible refine Below.drew ?_ | with_reducible refine below_drewN ?_ _ | with_reducible refine Below.setCell ?_ (by first | omega | (simp <;> omega)) _ | with_reducible refine Below.alloc ?_ (by first | omega | (simp <;> omega)) _)) hb7; have hsC := hbC.size; clear hb7 g7))
            all_goals
              go_wp2_with fail
              refine bodyPost_ret (v := .tuple #[.slice A7 (k + 1 + (n - k)) c7, .int .i64 0]) (by simp [results, Try.results16, go_sem]) rfl ?_
              rw [E.out]
              refine ⟨A7, k + 1 + (n - k), c7, rfl, ?_, hbw3.trans (Below.mono (B := w3.heap.size) (by repeat (first | with_reducible exact Below.refl _ _ | with_reducible assumption | with_reducible refine Below.drew ?_ | with_reducible refine below_drewN ?_ _ | with_reducible refine Below.setCell ?_ (by first | omega | (simp <;> omega)) _ | with_reducible refine Below.alloc ?_ (by first | omega | (simp <;> omega)) _)) hbw3.size)⟩
              refine own_more ?_ hbw3.size
              have e : clc (insC L k (id, pos, false)) = clc (L.take k) ++ [.int .i64 id, .int .i64 pos, .bool false] ++ clc (L.drop k) := by unfold insC; rw [clc_append, clc_append]; rfl
              rw [e]
              exact r3.2 (by omega)

          · have ep : placeN id L = k + 1 + placeN id (L.drop (k + 1)) := by rw [HP.out, placeN_at HX.out, if_neg hge]; omega
            have E1 := Lib.hid ep
            have dl : decide (ci < id) = true := dec_yes (by omega)
            clear ep
            go_wp2_with fail
            go_roundg (n - (k + 1))
            case measure => have := HK.out; omega
            case rel => exact ⟨k + 1, by omega, by go_num, rfl, E1⟩
        · obtain rfl : k = n := by omega
          have ep : placeN id L = k := by rw [HP.out, List.drop_of_length_le (by rw [HLN.out]; exact Nat.le_refl _)]; rfl
          have E0' := E0H.out
          rw [ep] at E0'
          have E := Lib.hid E0'
          have hcx := HC3.out.2.1
          have hTk := Reads.take hc3 (k := k) (by omega) (by decide)
          rw [← clc_take] at hTk
          have HTK := Lib.hid hTk
          have hdn : L.drop k = [] := List.drop_of_length_le (by rw [HLN.out]; exact Nat.le_refl _)
          rcases hA with rfl | ⟨b, o, rfl⟩ | ⟨ad, rfl, rfl⟩
          · obtain rfl : c = 0 := hc3.2.2.2.1 rfl
            obtain rfl : k = 0 := by omega
            have HD : Hid (Reads w3 w3.heap.size 3 none 0 0 (clc (L.drop 0))) := Lib.hid (by rw [hdn]; exact Reads.nil_ _ _ _)
            have hAd := trivial
            clear ep E0' hTk hdn hc3 h
            go_wp2_with fail
            go_region_held3 (fun _ => True)
              (exact trivial)
              (first
                | (refine step_append_0 rfl (.tmp 70) (.tmp 73) 24 rfl w3.heap.size 42 i0 _ 3 24 Try.underlying24 hi0 hz0 hz1 hz2 rfl (by decide) _ (by rfl) _ none 0 0 (clc (L.take 0)) (by first | rfl | simp [Act.eval, Act.put] | simp [Act.eval, Act.put, hAd]) (HTK.out.next (by repeat (first | with_reducible exact Below.refl _ _ | with_reducible assumption | with_reducible refine Below.drew ?_ | with_reducible refine below_drewN ?_ _ | with_reducible refine Below.setCell ?_ (by first | omega | (simp <;> omega)) _ | with_reducible refine Below.alloc ?_ (by first | omega | (simp <;> omega)) _))) (by first | exact clc_oneCell _ | (intro u hu; exact clc_oneCell _ u (List.mem_of_mem_take hu)) | (intro u hu; exact clc_oneCell _ u (List.mem_of_mem_drop hu))) (by simp only [maxLen]; omega) (by omega) (by first | omega | (simp <;> omega)) ?_; intro A5 c5 w5 r1 hb5; have hbA := below_next (v := w3) (by repeat (first | with_reducible exact Below.refl _ _ | with_reducible assumption | with_reducible refine Below.drew ?_ | with_reducible refine below_drewN ?_ _ | with_reducible refine Below.setCell ?_ (by first | omega | (simp <;> omega)) _ | with_reducible refine Below.alloc ?_ (by first | omega | (simp <;> omega)) _)) hb5; have hsA := hbA.size)
                | (refine step_append_E rfl (.tmp 74) (.tmp 78) 24 rfl w3.heap.size 42 i0 _ 3 24 Try.underlying24 hi0 hz0 hz1 hz2 rfl (by decide) A5 0 c5 (clc (L.take 0)) (by first | rfl | simp [Act.eval, Act.put] | simp [Act.eval, Act.put, hAd]) (by first | exact r1 | exact r1.drew | exact r1.alloc _ | exact OwnE.drew (r1.alloc _) | exact (OwnE.drew r1).alloc _ | exact OwnE.drew (OwnE.drew r1) | exact OwnE.drew (OwnE.drew (r1.alloc _)) | exact OwnE.drew ((OwnE.drew r1).alloc _) | exact (OwnE.drew (OwnE.drew r1)).alloc _) _ _ 1 1 [.int .i64 id, .int .i64 pos, .bool false] (by first | rfl | simp [Act.eval, Act.put] | simp [Act.eval, Act.put, hAd]) (reads_blk3 (by repeat (first | with_reducible exact blk_new (by first | rfl | (simp; done) | omega) | with_reducible refine drew_ ?_ | with_reducible refine old_ ?_ | (refine (hb5.block _ ?_).trans ?_; (focus (first | (omega; done) | (simp; done) | (simp; omega; done))))))) (by intro u hu; simp at hu; rcases hu with rfl | rfl | rfl <;> rfl) (by simp only [maxLen]; omega) (by omega) (by first | omega | (simp <;> omega)) ?_; intro A6 c6 w6 r2 g6 hb6; have hbB := Below.trans (B := w3.heap.size) (a := w3) (by repeat (first | with_reducible exact Below.refl _ _ | with_reducible assumption | with_reducible refine Below.drew ?_ | with_reducible refine below_drewN ?_ _ | with_reducible refine Below.setCell ?_ (by first | omega | (simp <;> omega)) _ | with_reducible refine Below.alloc ?_ (by first | omega | (simp <;> omega)) _)) hb6; have hsB := hbB.size; clear hb6 g6)
                | (refine step_append_E rfl (.tmp 79) (.tmp 82) 24 rfl w3.heap.size 42 i0 _ 3 24 Try.underlying24 hi0 hz0 hz1 hz2 rfl (by decide) A6 (0 + 1) c6 (clc (L.take 0) ++ [.int .i64 id, .int .i64 pos, .bool false]) (by first | rfl | simp [Act.eval, Act.put] | simp [Act.eval, Act.put, hAd]) (by first | exact r2 | exact r2.drew | exact r2.alloc _ | exact OwnE.drew (r2.alloc _) | exact (OwnE.drew r2).alloc _ | exact OwnE.drew (OwnE.drew r2) | exact OwnE.drew (OwnE.drew (r2.alloc _)) | exact OwnE.drew ((OwnE.drew r2).alloc _) | exact (OwnE.drew (OwnE.drew r2)).alloc _) _ none 0 0 (clc (L.drop 0)) (by first | rfl | simp [Act.eval, Act.put] | simp [Act.eval, Act.put, hAd]) (HD.out.next (by repeat (first | with_reducible exact Below.refl _ _ | with_reducible assumption | with_reducible refine Below.drew ?_ | with_reducible refine below_drewN ?_ _ | with_reducible refine Below.setCell ?_ (by first | omega | (simp <;> omega)) _ | with_reducible refine Below.alloc ?_ (by first | omega | (simp <;> omega)) _))) (by first | exact clc_oneCell _ | (intro u hu; exact clc_oneCell _ u (List.mem_of_mem_take hu)) | (intro u hu; exact clc_oneCell _ u (List.mem_of_mem_drop hu))) (by simp only [maxLen]; omega) (by omega) (by first | omega | (simp <;> omega)) ?_; intro A7 c7 w7 r3 g7 hb7; have hbC := Below.trans (B := w3.heap.size) (a := w3) (by repeat (first | with_reducible exact Below.refl _ _ | with_reducible assumption | with_reducible refine Below.drew ?_ | with_reducible refine below_drewN ?_ _ | with_reducible refine Below.setCell ?_ (by first | omega | (simp <;> omega)) _ | with_reducible refine Below.alloc ?_ (by first | omega | (simp <;> omega)) _)) hb7; have hsC := hbC.size; clear hb7 g7))
            all_goals
              go_wp2_with fail
              refine bodyPost_ret (v := .tuple #[.slice A7 (0 + 1 + 0) c7, .int .i64 0]) (by simp [results, Try.results16, go_sem]) rfl ?_
              rw [E.out]
              refine ⟨A7, 0 + 1 + 0, c7, rfl, ?_, hbw3.trans (Below.mono (B := w3.heap.size) (by repeat (first | with_reducible exact Below.refl _ _ | with_reducible assumption | with_reducible refine Below.drew ?_ | with_reducible refine below_drewN ?_ _ | with_reducible refine Below.setCell ?_ (by first | omega | (simp <;> omega)) _ | with_reducible refine Below.alloc ?_ (by first | omega | (simp <;> omega)) _)) hbw3.size)⟩
              refine own_more ?_ hbw3.size
              have e : clc (insC L 0 (id, pos, false)) = clc (L.take 0) ++ [.int .i64 id, .int .i64 pos, .bool false] ++ clc (L.drop 0) := by unfold insC; rw [clc_append, clc_append]; rfl
              rw [e]
              exact r3.2 (by omega)

          · obtain ⟨Ad, hAd0, hD⟩ := Reads.drop_ hc3 (k := k) (by omega)
            rw [← clc_drop] at hD
            have HD := Lib.hid hD
            have HAD := Lib.hid hAd0
            clear ep E0' hTk hD hAd0 hc3 h hdn
            go_wp2_with fail
            have hAd := HAD.out
            go_region_held3 (fun _ => True)
              (exact trivial)
              (first
                | (refine step_append_0 rfl (.tmp 70) (.tmp 73) 24 rfl w3.heap.size 42 i0 _ 3 24 Try.underlying24 hi0 hz0 hz1 hz2 rfl (by decide) _ (by rfl) _ (some ⟨b, o, none⟩) k c (clc (L.take k)) (by first | rfl | simp [Act.eval, Act.put] | simp [Act.eval, Act.put, hAd]) (HTK.out.next (by repeat (first | with_reducible exact Below.refl _ _ | with_reducible assumption | with_reducible refine Below.drew ?_ | with_reducible refine below_drewN ?_ _ | with_reducible refine Below.setCell ?_ (by first | omega | (simp <;> omega)) _ | with_reducible refine Below.alloc ?_ (by first | omega | (simp <;> omega)) _))) (by first | exact clc_oneCell _ | (intro u hu; exact clc_oneCell _ u (List.mem_of_mem_take hu)) | (intro u hu; exact clc_oneCell _ u (List.mem_of_mem_drop hu))) (by simp only [maxLen]; omega) (by omega) (by first | omega | (simp <;> omega)) ?_; intro A5 c5 w5 r1 hb5; have hbA := below_next (v := w3) (by repeat (first | with_reducible exact Below.refl _ _ | with_reducible assumption | with_reducible refine Below.drew ?_ | with_reducible refine below_drewN ?_ _ | with_reducible refine Below.setCell ?_ (by first | omega | (simp <;> omega)) _ | with_reducible refine Below.alloc ?_ (by first | omega | (simp <;> omega)) _)) hb5; have hsA := hbA.size)
                | (refine step_append_E rfl (.tmp 74) (.tmp 78) 24 rfl w3.heap.size 42 i0 _ 3 24 Try.underlying24 hi0 hz0 hz1 hz2 rfl (by decide) A5 k c5 (clc (L.take k)) (by first | rfl | simp [Act.eval, Act.put] | simp [Act.eval, Act.put, hAd]) (by first | exact r1 | exact r1.drew | exact r1.alloc _ | exact OwnE.drew (r1.alloc _) | exact (OwnE.drew r1).alloc _ | exact OwnE.drew (OwnE.drew r1) | exact OwnE.drew (OwnE.drew (r1.alloc _)) | exact OwnE.drew ((OwnE.drew r1).alloc _) | exact (OwnE.drew (OwnE.drew r1)).alloc _) _ _ 1 1 [.int .i64 id, .int .i64 pos, .bool false] (by first | rfl | simp [Act.eval, Act.put] | simp [Act.eval, Act.put, hAd]) (reads_blk3 (by repeat (first | with_reducible exact blk_new (by first | rfl | (simp; done) | omega) | with_reducible refine drew_ ?_ | with_reducible refine old_ ?_ | (refine (hb5.block _ ?_).trans ?_; (focus (first | (omega; done) | (simp; done) | (simp; omega; done))))))) (by intro u hu; simp at hu; rcases hu with rfl | rfl | rfl <;> rfl) (by simp only [maxLen]; omega) (by omega) (by first | omega | (simp <;> omega)) ?_; intro A6 c6 w6 r2 g6 hb6; have hbB := Below.trans (B := w3.heap.size) (a := w3) (by repeat (first | with_reducible exact Below.refl _ _ | with_reducible assumption | with_reducible refine Below.drew ?_ | with_reducible refine below_drewN ?_ _ | with_reducible refine Below.setCell ?_ (by first | omega | (simp <;> omega)) _ | with_reducible refine Below.alloc ?_ (by first | omega | (simp <;> omega)) _)) hb6; have hsB := hbB.size; clear hb6 g6)
                | (refine step_append_E rfl (.tmp 79) (.tmp 82) 24 rfl w3.heap.size 42 i0 _ 3 24 Try.underlying24 hi0 hz0 hz1 hz2 rfl (by decide) A6 (k + 1) c6 (clc (L.take k) ++ [.int .i64 id, .int .i64 pos, .bool false]) (by first | rfl | simp [Act.eval, Act.put] | simp [Act.eval, Act.put, hAd]) (by first | exact r2 | exact r2.drew | exact r2.alloc _ | exact OwnE.drew (r2.alloc _) | exact (OwnE.drew r2).alloc _ | exact OwnE.drew (OwnE.drew r2) | exact OwnE.drew (OwnE.drew (r2.alloc _)) | exact OwnE.drew ((OwnE.drew r2).alloc _) | exact (OwnE.drew (OwnE.drew r2)).alloc _) _ (some Ad) (k - k) (c - k) (clc (L.drop k)) (by first | rfl | simp [Act.eval, Act.put] | simp [Act.eval, Act.put, hAd]) (HD.out.next (by repeat (first | with_reducible exact Below.refl _ _ | with_reducible assumption | with_reducible refine Below.drew ?_ | with_reducible refine below_drewN ?_ _ | with_reducible refine Below.setCell ?_ (by first | omega | (simp <;> omega)) _ | with_reducible refine Below.alloc ?_ (by first | omega | (simp <;> omega)) _))) (by first | exact clc_oneCell _ | (intro u hu; exact clc_oneCell _ u (List.mem_of_mem_take hu)) | (intro u hu; exact clc_oneCell _ u (List.mem_of_mem_drop hu))) (by simp only [maxLen]; omega) (by omega) (by first | omega | (simp <;> omega)) ?_; intro A7 c7 w7 r3 g7 hb7; have hbC := Below.trans (B := w3.heap.size) (a := w3) (by repeat (first | with_reducible exact Below.refl _ _ | with_reducible assumption | with_reducible refine Below.drew ?_ | with_reducible refine below_drewN ?_ _ | with_reducible refine Below.setCell ?_ (by first | omega | (simp <;> omega)) _ | with_reducible refine Below.alloc ?_ (by first | omega | (simp <;> omega)) _)) hb7; have hsC := hbC.size; clear hb7 g7))
            all_goals
              go_wp2_with fail
              refine bodyPost_ret (v := .tuple #[.slice A7 (k + 1 + (k - k)) c7, .int .i64 0]) (by simp [results, Try.results16, go_sem]) rfl ?_
              rw [E.out]
              refine ⟨A7, k + 1 + (k - k), c7, rfl, ?_, hbw3.trans (Below.mono (B := w3.heap.size) (by repeat (first | with_reducible exact Below.refl _ _ | with_reducible assumption | with_reducible refine Below.drew ?_ | with_reducible refine below_drewN ?_ _ | with_reducible refine Below.setCell ?_ (by first | omega | (simp <;> omega)) _ | with_reducible refine Below.alloc ?_ (by first | omega | (simp <;> omega)) _)) hbw3.size)⟩
              refine own_more ?_ hbw3.size
              have e : clc (insC L k (id, pos, false)) = clc (L.take k) ++ [.int .i64 id, .int .i64 pos, .bool false] ++ clc (L.drop k) := by unfold insC; rw [clc_append, clc_append]; rfl
              rw [e]
              exact r3.2 (by omega)

          · obtain rfl : k = 0 := by omega
            have HD : Hid (Reads w3 w3.heap.size 3 (some ad) 0 0 (clc (L.drop 0))) := Lib.hid (by rw [hdn]; exact reads_zero (by simp [maxLen]))
            have hAd := trivial
            clear ep E0' hTk hdn hc3 h
            obtain ⟨adb, ado, ads⟩ := ad
            go_wp2_with fail
            go_region_held3 (fun _ => True)
              (exact trivial)
              (first
                | (refine step_append_0 rfl (.tmp 70) (.tmp 73) 24 rfl w3.heap.size 42 i0 _ 3 24 Try.underlying24 hi0 hz0 hz1 hz2 rfl (by decide) _ (by rfl) _ (some ⟨adb, ado, ads⟩) 0 0 (clc (L.take 0)) (by first | rfl | simp [Act.eval, Act.put] | simp [Act.eval, Act.put, hAd]) (HTK.out.next (by repeat (first | with_reducible exact Below.refl _ _ | with_reducible assumption | with_reducible refine Below.drew ?_ | with_reducible refine below_drewN ?_ _ | with_reducible refine Below.setCell ?_ (by first | omega | (simp <;> omega)) _ | with_reducible refine Below.alloc ?_ (by first | omega | (simp <;> omega)) _))) (by first | exact clc_oneCell _ | (intro u hu; exact clc_oneCell _ u (List.mem_of_mem_take hu)) | (intro u hu; exact clc_oneCell _ u (List.mem_of_mem_drop hu))) (by simp only [maxLen]; omega) (by omega) (by first | omega | (simp <;> omega)) ?_; intro A5 c5 w5 r1 hb5; have hbA := below_next (v := w3) (by repeat (first | with_reducible exact Below.refl _ _ | with_reducible assumption | with_reducible refine Below.drew ?_ | with_reducible refine below_drewN ?_ _ | with_reducible refine Below.setCell ?_ (by first | omega | (simp <;> omega)) _ | with_reducible refine Below.alloc ?_ (by first | omega | (simp <;> omega)) _)) hb5; have hsA := hbA.size)
                | (refine step_append_E rfl (.tmp 74) (.tmp 78) 24 rfl w3.heap.size 42 i0 _ 3 24 Try.underlying24 hi0 hz0 hz1 hz2 rfl (by decide) A5 0 c5 (clc (L.take 0)) (by first | rfl | simp [Act.eval, Act.put] | simp [Act.eval, Act.put, hAd]) (by first | exact r1 | exact r1.drew | exact r1.alloc _ | exact OwnE.drew (r1.alloc _) | exact (OwnE.drew r1).alloc _ | exact OwnE.drew (OwnE.drew r1) | exact OwnE.drew (OwnE.drew (r1.alloc _)) | exact OwnE.drew ((OwnE.drew r1).alloc _) | exact (OwnE.drew (OwnE.drew r1)).alloc _) _ _ 1 1 [.int .i64 id, .int .i64 pos, .bool false] (by first | rfl | simp [Act.eval, Act.put] | simp [Act.eval, Act.put, hAd]) (reads_blk3 (by repeat (first | with_reducible exact blk_new (by first | rfl | (simp; done) | omega) | with_reducible refine drew_ ?_ | with_reducible refine old_ ?_ | (refine (hb5.block _ ?_).trans ?_; (focus (first | (omega; done) | (simp; done) | (simp; omega; done))))))) (by intro u hu; simp at hu; rcases hu with rfl | rfl | rfl <;> rfl) (by simp only [maxLen]; omega) (by omega) (by first | omega | (simp <;> omega)) ?_; intro A6 c6 w6 r2 g6 hb6; have hbB := Below.trans (B := w3.heap.size) (a := w3) (by repeat (first | with_reducible exact Below.refl _ _ | with_reducible assumption | with_reducible refine Below.drew ?_ | with_reducible refine below_drewN ?_ _ | with_reducible refine Below.setCell ?_ (by first | omega | (simp <;> omega)) _ | with_reducible refine Below.alloc ?_ (by first | omega | (simp <;> omega)) _)) hb6; have hsB := hbB.size; clear hb6 g6)
                | (refine step_append_E rfl (.tmp 79) (.tmp 82) 24 rfl w3.heap.size 42 i0 _ 3 24 Try.underlying24 hi0 hz0 hz1 hz2 rfl (by decide) A6 (0 + 1) c6 (clc (L.take 0) ++ [.int .i64 id, .int .i64 pos, .bool false]) (by first | rfl | simp [Act.eval, Act.put] | simp [Act.eval, Act.put, hAd]) (by first | exact r2 | exact r2.drew | exact r2.alloc _ | exact OwnE.drew (r2.alloc _) | exact (OwnE.drew r2).alloc _ | exact OwnE.drew (OwnE.drew r2) | exact OwnE.drew (OwnE.drew (r2.alloc _)) | exact OwnE.drew ((OwnE.drew r2).alloc _) | exact (OwnE.drew (OwnE.drew r2)).alloc _) _ (some ⟨adb, ado, ads⟩) 0 0 (clc (L.drop 0)) (by first | rfl | simp [Act.eval, Act.put] | simp [Act.eval, Act.put, hAd]) (HD.out.next (by repeat (first | with_reducible exact Below.refl _ _ | with_reducible assumption | with_reducible refine Below.drew ?_ | with_reducible refine below_drewN ?_ _ | with_reducible refine Below.setCell ?_ (by first | omega | (simp <;> omega)) _ | with_reducible refine Below.alloc ?_ (by first | omega | (simp <;> omega)) _))) (by first | exact clc_oneCell _ | (intro u hu; exact clc_oneCell _ u (List.mem_of_mem_take hu)) | (intro u hu; exact clc_oneCell _ u (List.mem_of_mem_drop hu))) (by simp only [maxLen]; omega) (by omega) (by first | omega | (simp <;> omega)) ?_; intro A7 c7 w7 r3 g7 hb7; have hbC := Below.trans (B := w3.heap.size) (a := w3) (by repeat (first | with_reducible exact Below.refl _ _ | with_reducible assumption | with_reducible refine Below.drew ?_ | with_reducible refine below_drewN ?_ _ | with_reducible refine Below.setCell ?_ (by first | omega | (simp <;> omega)) _ | with_reducible refine Below.alloc ?_ (by first | omega | (simp <;> omega)) _)) hb7; have hsC := hbC.size; clear hb7 g7))
            all_goals
              go_wp2_with fail
              refine bodyPost_ret (v := .tuple #[.slice A7 (0 + 1 + 0) c7, .int .i64 0]) (by simp [results, Try.results16, go_sem]) rfl ?_
              rw [E.out]
              refine ⟨A7, 0 + 1 + 0, c7, rfl, ?_, hbw3.trans (Below.mono (B := w3.heap.size) (by repeat (first | with_reducible exact Below.refl _ _ | with_reducible assumption | with_reducible refine Below.drew ?_ | with_reducible refine below_drewN ?_ _ | with_reducible refine Below.setCell ?_ (by first | omega | (simp <;> omega)) _ | with_reducible refine Below.alloc ?_ (by first | omega | (simp <;> omega)) _)) hbw3.size)⟩
              refine own_more ?_ hbw3.size
              have e : clc (insC L 0 (id, pos, false)) = clc (L.take 0) ++ [.int .i64 id, .int .i64 pos, .bool false] ++ clc (L.drop 0) := by unfold insC; rw [clc_append, clc_append]; rfl
              rw [e]
              exact r3.2 (by omega)

  · have hf : fidI id L = (placeN id L : Nat) := fidI_yes hr hi
    have hpl := placeN_le id L
    have E : Hid (oneM L 0 id pos off = ([], 5)) := Lib.hid (by rw [hone]; simp [addM, hr, hmay, hi])
    have hpos : (0 : Int) ≤ (placeN id L : Nat) := by omega
    clear hone hmay hi hlen hr hpl
    go_enter Try.func16, Try.ntmps16
    go_wp2_with fail
    refine (rright_any _ _ _ L _ h).mono ?_
    rintro e w1 ⟨rfl, hb1⟩
    rw [HR.out]
    go_wp2_with fail
    refine (rfind_any A n c L id _ (h.next hb1)).mono ?_
    rintro e w2 ⟨rfl, rfl⟩
    rw [hf]
    have HC2 := Lib.hid (h.next hb1)
    have hbw1 := hb1
    go_wp2_with (at_builtin; go_loud (refine wpList_append_reads _ rfl (.tmp 45) (.tmp 46) 24 rfl w1.heap.size 42 i0 _ 3 24 Try.underlying24 hi0 hz0 hz1 hz2 rfl (by decide) (.slice (some ⟨w1.heap.size, 0, none⟩) 0 0) 0 [] rfl (World.ownsRow_made w1 #[] 0 (Nat.le_refl _) (Nat.zero_le _) (by simp)) w1.heap.size A n c (clc L) rfl (HC2.out.alloc (Nat.le_refl _) _) (clc_oneCell _) (by simp only [maxLen]; omega) (by omega) (by simp) ?_; intro A3 c3 w3 hown3 _ hb3 _; rw [Nat.zero_add, List.nil_append] at hown3; have hbw3 := hbw1.trans (Below.mono (B := w1.heap.size) (Below.trans (Below.alloc (Below.refl _ _) (Nat.le_refl _) _) hb3) hbw1.size); rw [Nat.zero_add]))
    refine bodyPost_ret (v := .tuple #[.slice none 0 0, .int .i64 5]) (by simp [results, Try.results16, go_sem]) rfl ?_
    rw [E.out]
    exact one_none 5 rfl hbw3
end Go.Proofs.Ytongakhcmdkeiaa
