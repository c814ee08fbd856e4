/- The document's Act: Drop, Commit, Turn. Printed by gen_act.py. Conditions: those that each theorem states. -/
import Derived.Test.YtongakhcmdkeiaaClM
namespace Go.Proofs.Ytongakhcmdkeiaa
open Go.RowKit

/-- What the document's Act gives back. -/
def RactRes (w : World) (R : List Cl × Int) (e : Ending) (w' : World) : Prop :=
  ∃ A' n' c', e = .returned (.tuple #[.slice A' n' c', .int .i64 R.2]) ∧ ClAt w' A' n' c' R.1 ∧ (A' = none ∨ ∃ b o, A' = some ⟨b, o, none⟩) ∧ Below w.heap.size w w'
theorem OneRes.ract {w w' : World} {R : List Cl × Int} {e : Ending} (h : OneRes w R e w') : RactRes w R e w' := by
  obtain ⟨A', n', c', h1, h2, h3⟩ := h
  refine ⟨A', n', c', h1, Reads.of_own h2, ?_, h3⟩
  rcases own_addr h2 with ⟨rfl, _⟩ | ⟨g, rfl⟩
  · exact .inl rfl
  · exact .inr ⟨g, 0, rfl⟩
theorem OwnE.form {w : World} {base size n c : Nat} {e : TypeId} {A : Option Addr} {xs : List Value} (h : OwnE w base e size A n c xs) : A = none ∨ ∃ b o, A = some ⟨b, o, none⟩ := by
  rcases Nat.eq_zero_or_pos n with h0 | h0
  · obtain ⟨_, _, g, hA⟩ := h.1 h0
    exact .inr ⟨g, 0, hA⟩
  · rcases own_addr (h.2 h0) with ⟨h1, _⟩ | ⟨g, h1⟩
    · exact .inl h1
    · exact .inr ⟨g, 0, h1⟩

set_option maxRecDepth 20000 in
set_option maxHeartbeats 4000000 in
theorem ract_drop (A : Option Addr) (n c : Nat) (L : List Cl) (id pos : Int) (off : Bool) (w : World) (h : ClAt w A n c L) (hr : rightB L = true) (hm : 1 ≤ id ∧ id ≤ 1073741824) :
    Calls Try.prog 16 #[.slice A n c, .int .i64 1, .int .i64 id, .int .i64 pos, .bool off] w fun e w' => RactRes w (oneM L 1 id pos off) e w' := by
  have hlen := cl_length h
  have hn : n ≤ 4 := by have := rightB_len hr; omega
  have hcm := h.max
  have HCM := Lib.hid h.2.2.1
  obtain ⟨i0, hi0, hz0, hz1, hz2⟩ := info_parts info42
  have e1 : decide (id < 1) = false := dec_no (by omega)
  have e2 : decide (1073741824 < id) = false := dec_no (by omega)
  have hmay : mayB id 0 = true := mayB_mk (by omega)
  have HLN := Lib.hid hlen
  have HR := Lib.hid hr
  cases hi : inB id L
  · have hf : fidI id L = -1 := fidI_no hr hi
    have E : Hid (oneM L 1 id pos off = ([], 4)) := Lib.hid (by show dropM L id = _; unfold dropM; simp [knownM, hr, hmay, hi])
    clear hmay hi hlen hr
    go_enter Try.func16, Try.ntmps16
    go_wp2_with fail
    refine (rright_any _ _ _ L _ h).mono ?_
    rintro e w1 ⟨rfl, hb1⟩
    rw [HR.out]
    go_wp2_with fail
    refine (rfind_any A n c L id _ (h.next hb1)).mono ?_
    rintro e w2 ⟨rfl, rfl⟩
    rw [hf]
    have HC2 := Lib.hid (h.next hb1)
    have hbw1 := hb1
    go_wp2_with (at_builtin; go_loud (refine wpList_append_reads _ rfl (.tmp 45) (.tmp 46) 24 rfl w1.heap.size 42 i0 _ 3 24 Try.underlying24 hi0 hz0 hz1 hz2 rfl (by decide) (.slice (some ⟨w1.heap.size, 0, none⟩) 0 0) 0 [] rfl (World.ownsRow_made w1 #[] 0 (Nat.le_refl _) (Nat.zero_le _) (by simp)) w1.heap.size A n c (clc L) rfl (HC2.out.alloc (Nat.le_refl _) _) (clc_oneCell _) (by simp only [maxLen]; omega) (by omega) (by simp) ?_; intro A3 c3 w3 hown3 _ hb3 _; rw [Nat.zero_add, List.nil_append] at hown3; have hbw3 := hbw1.trans (Below.mono (B := w1.heap.size) (Below.trans (Below.alloc (Below.refl _ _) (Nat.le_refl _) _) hb3) hbw1.size); rw [Nat.zero_add]))
    refine bodyPost_ret (v := .tuple #[.slice none 0 0, .int .i64 4]) (by simp [results, Try.results16, go_sem]) rfl ?_
    rw [E.out]
    exact (one_none 4 rfl hbw3).ract
  · have hf : fidI id L = (placeN id L : Nat) := fidI_yes hr hi
    obtain ⟨cp, cf, hx⟩ := inB_is hi
    have e0 : oneM L 1 id pos off = (L.take (placeN id L) ++ L.drop (placeN id L + 1), 0) := by show dropM L id = _; unfold dropM; simp [knownM, hr, hmay, hi]
    have hlt : placeN id L < n := by have := (List.getElem?_eq_some_iff.1 hx).1; omega
    obtain ⟨k, hk⟩ : ∃ k, k = placeN id L := ⟨_, rfl⟩
    rw [← hk] at hf hx e0 hlt
    have HX := Lib.hid hx
    have E := Lib.hid e0
    have b0 : (0 : Int) ≤ (k : Int) := by omega
    have bk : (k : Int) < (n : Int) := by omega
    clear hmay hi hlen hr hk hx e0
    go_enter Try.func16, Try.ntmps16
    go_wp2_with fail
    refine (rright_any _ _ _ L _ h).mono ?_
    rintro e w1 ⟨rfl, hb1⟩
    rw [HR.out]
    go_wp2_with fail
    refine (rfind_any A n c L id _ (h.next hb1)).mono ?_
    rintro e w2 ⟨rfl, rfl⟩
    rw [hf]
    have HC2 := Lib.hid (h.next hb1)
    have hbw1 := hb1
    go_wp2_with (at_builtin; go_loud (refine wpList_append_reads _ rfl (.tmp 45) (.tmp 46) 24 rfl w1.heap.size 42 i0 _ 3 24 Try.underlying24 hi0 hz0 hz1 hz2 rfl (by decide) (.slice (some ⟨w1.heap.size, 0, none⟩) 0 0) 0 [] rfl (World.ownsRow_made w1 #[] 0 (Nat.le_refl _) (Nat.zero_le _) (by simp)) w1.heap.size A n c (clc L) rfl (HC2.out.alloc (Nat.le_refl _) _) (clc_oneCell _) (by simp only [maxLen]; omega) (by omega) (by simp) ?_; intro A3 c3 w3 hown3 _ hb3 _; rw [Nat.zero_add, List.nil_append] at hown3; have hbw3 := hbw1.trans (Below.mono (B := w1.heap.size) (Below.trans (Below.alloc (Below.refl _ _) (Nat.le_refl _) _) hb3) hbw1.size); rw [Nat.zero_add]))
    have hc3 : ClAt w3 A n c L := h.next hbw3
    obtain ⟨b, o, ci, cp', cf', rfl, hbb, -, -, -, -⟩ := cl_at hc3 hlt
    obtain ⟨Ad, hAd0, hD⟩ := Reads.drop_ hc3 (k := k + 1) (by omega)
    have hTk := Reads.take hc3 (k := k) (by omega) (by decide)
    have hcx := hc3.2.1
    rw [← clc_take] at hTk
    rw [← clc_drop] at hD
    have HTK := Lib.hid hTk
    have HD := Lib.hid hD
    have hAd := hAd0
    have d2 : (0 : Int) ≤ (k : Int) + 1 := by omega
    have d3 : (k : Int) + 1 ≤ (n : Int) := by omega
    have d4 : ((k : Int) + 1).toNat = k + 1 := by omega
    have d5 : k ≤ c := by omega
    have d6 : k + 1 ≤ c := by omega
    have d7 : IntKind.i64.wrap ((k : Int) + 1) = (k : Int) + 1 := IntWalk.i64_in _ (by omega)
    clear hTk hD hAd0 hc3 h hown3 hb3
    go_wp2_with fail
    go_region_held3 (fun _ => True)
      (exact trivial)
      (first
        | (refine step_append_0 rfl (.tmp 95) (.tmp 98) 24 rfl w3.heap.size 42 i0 _ 3 24 Try.underlying24 hi0 hz0 hz1 hz2 rfl (by decide) _ (by rfl) _ (some ⟨b, o, none⟩) k c (clc (L.take k)) (by first | rfl | simp [Act.eval, Act.put] | simp [Act.eval, Act.put, hAd]) (HTK.out.next (by repeat (first | with_reducible exact Below.refl _ _ | with_reducible assumption | with_reducible refine Below.drew ?_ | with_reducible refine below_drewN ?_ _ | with_reducible refine Below.setCell ?_ (by first | omega | (simp <;> omega)) _ | with_reducible refine Below.alloc ?_ (by first | omega | (simp <;> omega)) _))) (by first | exact clc_oneCell _ | (intro u hu; exact clc_oneCell _ u (List.mem_of_mem_take hu)) | (intro u hu; exact clc_oneCell _ u (List.mem_of_mem_drop hu))) (by simp only [maxLen]; omega) (by omega) (by first | omega | (simp <;> omega)) ?_; intro A5 c5 w5 r1 hb5; have hbA := below_next (v := w3) (by repeat (first | with_reducible exact Below.refl _ _ | with_reducible assumption | with_reducible refine Below.drew ?_ | with_reducible refine below_drewN ?_ _ | with_reducible refine Below.setCell ?_ (by first | omega | (simp <;> omega)) _ | with_reducible refine Below.alloc ?_ (by first | omega | (simp <;> omega)) _)) hb5; have hsA := hbA.size; clear hb5)
        | (refine step_append_E rfl (.tmp 99) (.tmp 103) 24 rfl w3.heap.size 42 i0 _ 3 24 Try.underlying24 hi0 hz0 hz1 hz2 rfl (by decide) A5 k c5 (clc (L.take k)) (by first | rfl | simp [Act.eval, Act.put] | simp [Act.eval, Act.put, hAd]) (by first | exact r1 | exact r1.drew | exact r1.alloc _ | exact OwnE.drew (r1.alloc _) | exact (OwnE.drew r1).alloc _ | exact OwnE.drew (OwnE.drew r1) | exact OwnE.drew (OwnE.drew (r1.alloc _)) | exact OwnE.drew ((OwnE.drew r1).alloc _) | exact (OwnE.drew (OwnE.drew r1)).alloc _) _ (some Ad) (n - (k + 1)) (c - (k + 1)) (clc (L.drop (k + 1))) (by first | rfl | simp [Act.eval, Act.put] | simp [Act.eval, Act.put, hAd]) (HD.out.next (by repeat (first | with_reducible exact Below.refl _ _ | with_reducible assumption | with_reducible refine Below.drew ?_ | with_reducible refine below_drewN ?_ _ | with_reducible refine Below.setCell ?_ (by first | omega | (simp <;> omega)) _ | with_reducible refine Below.alloc ?_ (by first | omega | (simp <;> omega)) _))) (by first | exact clc_oneCell _ | (intro u hu; exact clc_oneCell _ u (List.mem_of_mem_take hu)) | (intro u hu; exact clc_oneCell _ u (List.mem_of_mem_drop hu))) (by simp only [maxLen]; omega) (by omega) (by first | omega | (simp <;> omega)) ?_; intro A6 c6 w6 r2 g6 hb6; have hbB := Below.trans (B := w3.heap.size) (a := w3) (by repeat (first | with_reducible exact Below.refl _ _ | with_reducible assumption | with_reducible refine Below.drew ?_ | with_reducible refine below_drewN ?_ _ | with_reducible refine Below.setCell ?_ (by first | omega | (simp <;> omega)) _ | with_reducible refine Below.alloc ?_ (by first | omega | (simp <;> omega)) _)) hb6; have hsB := hbB.size; clear hb6 g6))
    all_goals
      go_wp2_with fail
      refine bodyPost_ret (v := .tuple #[.slice A6 (k + (n - (k + 1))) c6, .int .i64 0]) (by simp [results, Try.results16, go_sem]) rfl ?_
      rw [E.out]
      refine ⟨A6, k + (n - (k + 1)), c6, rfl, ?_, r2.form, hbw3.trans (Below.mono (B := w3.heap.size) (by repeat (first | with_reducible exact Below.refl _ _ | with_reducible assumption | with_reducible refine Below.drew ?_ | with_reducible refine below_drewN ?_ _ | with_reducible refine Below.setCell ?_ (by first | omega | (simp <;> omega)) _ | with_reducible refine Below.alloc ?_ (by first | omega | (simp <;> omega)) _)) hbw3.size)⟩
      show ClAt _ _ _ _ (L.take k ++ L.drop (k + 1))
      unfold ClAt
      rw [clc_append]
      exact r2.reads

set_option maxRecDepth 20000 in
set_option maxHeartbeats 4000000 in
theorem ract_commit (A : Option Addr) (n c : Nat) (L : List Cl) (id pos : Int) (off : Bool) (w : World) (h : ClAt w A n c L) (hr : rightB L = true) (hm : 1 ≤ id ∧ id ≤ 1073741824) (hp : 0 ≤ pos ∧ pos ≤ 1099511627776) :
    Calls Try.prog 16 #[.slice A n c, .int .i64 2, .int .i64 id, .int .i64 pos, .bool off] w fun e w' => OneRes w (oneM L 2 id pos off) e w' := by
  have hlen := cl_length h
  have hn : n ≤ 4 := by have := rightB_len hr; omega
  have hcm := h.max
  have HCM := Lib.hid h.2.2.1
  obtain ⟨i0, hi0, hz0, hz1, hz2⟩ := info_parts info42
  have e1 : decide (id < 1) = false := dec_no (by omega)
  have e2 : decide (1073741824 < id) = false := dec_no (by omega)
  have e3 : decide (pos < 0) = false := dec_no (by omega)
  have e4 : decide (1099511627776 < pos) = false := dec_no (by omega)
  have hmay : mayB id pos = true := mayB_mk (by omega)
  have HLN := Lib.hid hlen
  have HR := Lib.hid hr
  cases hi : inB id L
  · have hf : fidI id L = -1 := fidI_no hr hi
    have E : Hid (oneM L 2 id pos off = ([], 4)) := Lib.hid (by show commitM L id pos = _; unfold commitM; simp [knownM, hr, hmay, hi])
    clear hmay hi hlen hr
    go_enter Try.func16, Try.ntmps16
    go_wp2_with fail
    refine (rright_any _ _ _ L _ h).mono ?_
    rintro e w1 ⟨rfl, hb1⟩
    rw [HR.out]
    go_wp2_with fail
    refine (rfind_any A n c L id _ (h.next hb1)).mono ?_
    rintro e w2 ⟨rfl, rfl⟩
    rw [hf]
    have HC2 := Lib.hid (h.next hb1)
    have hbw1 := hb1
    go_wp2_with (at_builtin; go_loud (refine wpList_append_reads _ rfl (.tmp 45) (.tmp 46) 24 rfl w1.heap.size 42 i0 _ 3 24 Try.underlying24 hi0 hz0 hz1 hz2 rfl (by decide) (.slice (some ⟨w1.heap.size, 0, none⟩) 0 0) 0 [] rfl (World.ownsRow_made w1 #[] 0 (Nat.le_refl _) (Nat.zero_le _) (by simp)) w1.heap.size A n c (clc L) rfl (HC2.out.alloc (Nat.le_refl _) _) (clc_oneCell _) (by simp only [maxLen]; omega) (by omega) (by simp) ?_; intro A3 c3 w3 hown3 _ hb3 _; rw [Nat.zero_add, List.nil_append] at hown3; have hbw3 := hbw1.trans (Below.mono (B := w1.heap.size) (Below.trans (Below.alloc (Below.refl _ _) (Nat.le_refl _) _) hb3) hbw1.size); rw [Nat.zero_add]))
    refine bodyPost_ret (v := .tuple #[.slice none 0 0, .int .i64 4]) (by simp [results, Try.results16, go_sem]) rfl ?_
    rw [E.out]
    exact one_none 4 rfl hbw3
  · have hf : fidI id L = (placeN id L : Nat) := fidI_yes hr hi
    obtain ⟨cp, cf, hx⟩ := inB_is hi
    have e0 : oneM L 2 id pos off = (L.set (placeN id L) (id, max cp pos, cf), 0) := by show commitM L id pos = _; unfold commitM; simp [knownM, hr, hmay, hi, setP, hx]
    have hlt : placeN id L < n := by have := (List.getElem?_eq_some_iff.1 hx).1; omega
    obtain ⟨k, hk⟩ : ∃ k, k = placeN id L := ⟨_, rfl⟩
    rw [← hk] at hf hx e0 hlt
    have HX := Lib.hid hx
    have E := Lib.hid e0
    have b0 : (0 : Int) ≤ (k : Int) := by omega
    have bk : (k : Int) < (n : Int) := by omega
    clear hmay hi hlen hr hk hx e0
    go_enter Try.func16, Try.ntmps16
    go_wp2_with fail
    refine (rright_any _ _ _ L _ h).mono ?_
    rintro e w1 ⟨rfl, hb1⟩
    rw [HR.out]
    go_wp2_with fail
    refine (rfind_any A n c L id _ (h.next hb1)).mono ?_
    rintro e w2 ⟨rfl, rfl⟩
    rw [hf]
    have HC2 := Lib.hid (h.next hb1)
    have hbw1 := hb1
    go_wp2_with (at_builtin; go_loud (refine wpList_append_reads _ rfl (.tmp 45) (.tmp 46) 24 rfl w1.heap.size 42 i0 _ 3 24 Try.underlying24 hi0 hz0 hz1 hz2 rfl (by decide) (.slice (some ⟨w1.heap.size, 0, none⟩) 0 0) 0 [] rfl (World.ownsRow_made w1 #[] 0 (Nat.le_refl _) (Nat.zero_le _) (by simp)) w1.heap.size A n c (clc L) rfl (HC2.out.alloc (Nat.le_refl _) _) (clc_oneCell _) (by simp only [maxLen]; omega) (by omega) (by simp) ?_; intro A3 c3 w3 hown3 _ hb3 _; rw [Nat.zero_add, List.nil_append] at hown3; have hbw3 := hbw1.trans (Below.mono (B := w1.heap.size) (Below.trans (Below.alloc (Below.refl _ _) (Nat.le_refl _) _) hb3) hbw1.size); rw [Nat.zero_add]; obtain ⟨g, rfl, hbg, hgl, hc, hf2⟩ := own_at hown3 (clc_get HX.out).2.1; have HO := Lib.hid hown3; clear hown3 hb3))
    all_goals
      refine bodyPost_ret (v := .tuple #[.slice (some ⟨g, 0, none⟩) n c3, .int .i64 0]) (by simp [results, Try.results16, go_sem]) rfl ?_
      rw [E.out]
      refine ⟨_, _, _, rfl, ?_, hbw3.setCell (by have := hbw1.size; exact Nat.le_trans this hbg) _⟩
      first | rw [show max cp pos = pos by omega, ← clc_set1 _ HX.out] | rw [show max cp pos = cp by omega, ← clc_set1 _ HX.out]
      exact own_more (own_set HO.out (k * 3 + 1) _).1 hbw1.size

set_option maxRecDepth 20000 in
set_option maxHeartbeats 4000000 in
theorem ract_turn (A : Option Addr) (n c : Nat) (L : List Cl) (a id pos : Int) (off : Bool) (w : World) (h : ClAt w A n c L) (hr : rightB L = true) (hm : 1 ≤ id ∧ id ≤ 1073741824) (ha : a ≠ 0 ∧ a ≠ 1 ∧ a ≠ 2) :
    Calls Try.prog 16 #[.slice A n c, .int .i64 a, .int .i64 id, .int .i64 pos, .bool off] w fun e w' => OneRes w (oneM L a id pos off) e w' := by
  have hlen := cl_length h
  have hn : n ≤ 4 := by have := rightB_len hr; omega
  have hcm := h.max
  have HCM := Lib.hid h.2.2.1
  obtain ⟨i0, hi0, hz0, hz1, hz2⟩ := info_parts info42
  have e1 : decide (id < 1) = false := dec_no (by omega)
  have e2 : decide (1073741824 < id) = false := dec_no (by omega)
  have q0 : (a == 0) = false := by simp [ha]
  have q1 : (a == 1) = false := by simp [ha]
  have q2 : (a == 2) = false := by simp [ha]
  have hmay : mayB id 0 = true := mayB_mk (by omega)
  have hone : oneM L a id pos off = turnM L id off := by unfold oneM; rw [if_neg ha.1, if_neg ha.2.1, if_neg ha.2.2]
  clear ha
  have HLN := Lib.hid hlen
  have HR := Lib.hid hr
  cases hi : inB id L
  · have hf : fidI id L = -1 := fidI_no hr hi
    have E : Hid (oneM L a id pos off = ([], 4)) := Lib.hid (by rw [hone]; unfold turnM; simp [knownM, hr, hmay, hi])
    clear hmay hi hlen hr
    go_enter Try.func16, Try.ntmps16
    go_wp2_with fail
    refine (rright_any _ _ _ L _ h).mono ?_
    rintro e w1 ⟨rfl, hb1⟩
    rw [HR.out]
    go_wp2_with fail
    refine (rfind_any A n c L id _ (h.next hb1)).mono ?_
    rintro e w2 ⟨rfl, rfl⟩
    rw [hf]
    have HC2 := Lib.hid (h.next hb1)
    have hbw1 := hb1
    go_wp2_with (at_builtin; go_loud (refine wpList_append_reads _ rfl (.tmp 45) (.tmp 46) 24 rfl w1.heap.size 42 i0 _ 3 24 Try.underlying24 hi0 hz0 hz1 hz2 rfl (by decide) (.slice (some ⟨w1.heap.size, 0, none⟩) 0 0) 0 [] rfl (World.ownsRow_made w1 #[] 0 (Nat.le_refl _) (Nat.zero_le _) (by simp)) w1.heap.size A n c (clc L) rfl (HC2.out.alloc (Nat.le_refl _) _) (clc_oneCell _) (by simp only [maxLen]; omega) (by omega) (by simp) ?_; intro A3 c3 w3 hown3 _ hb3 _; rw [Nat.zero_add, List.nil_append] at hown3; have hbw3 := hbw1.trans (Below.mono (B := w1.heap.size) (Below.trans (Below.alloc (Below.refl _ _) (Nat.le_refl _) _) hb3) hbw1.size); rw [Nat.zero_add]))
    refine bodyPost_ret (v := .tuple #[.slice none 0 0, .int .i64 4]) (by simp [results, Try.results16, go_sem]) rfl ?_
    rw [E.out]
    exact one_none 4 rfl hbw3
  · have hf : fidI id L = (placeN id L : Nat) := fidI_yes hr hi
    obtain ⟨cp, cf, hx⟩ := inB_is hi
    have e0 : oneM L a id pos off = (L.set (placeN id L) (id, cp, off), 0) := by rw [hone]; unfold turnM; simp [knownM, hr, hmay, hi, setO, hx]
    have hlt : placeN id L < n := by have := (List.getElem?_eq_some_iff.1 hx).1; omega
    obtain ⟨k, hk⟩ : ∃ k, k = placeN id L := ⟨_, rfl⟩
    rw [← hk] at hf hx e0 hlt
    have HX := Lib.hid hx
    have E := Lib.hid e0
    have b0 : (0 : Int) ≤ (k : Int) := by omega
    have bk : (k : Int) < (n : Int) := by omega
    clear hmay hi hlen hr hk hx e0
    go_enter Try.func16, Try.ntmps16
    go_wp2_with fail
    refine (rright_any _ _ _ L _ h).mono ?_
    rintro e w1 ⟨rfl, hb1⟩
    rw [HR.out]
    go_wp2_with fail
    refine (rfind_any A n c L id _ (h.next hb1)).mono ?_
    rintro e w2 ⟨rfl, rfl⟩
    rw [hf]
    have HC2 := Lib.hid (h.next hb1)
    have hbw1 := hb1
    go_wp2_with (at_builtin; go_loud (refine wpList_append_reads _ rfl (.tmp 45) (.tmp 46) 24 rfl w1.heap.size 42 i0 _ 3 24 Try.underlying24 hi0 hz0 hz1 hz2 rfl (by decide) (.slice (some ⟨w1.heap.size, 0, none⟩) 0 0) 0 [] rfl (World.ownsRow_made w1 #[] 0 (Nat.le_refl _) (Nat.zero_le _) (by simp)) w1.heap.size A n c (clc L) rfl (HC2.out.alloc (Nat.le_refl _) _) (clc_oneCell _) (by simp only [maxLen]; omega) (by omega) (by simp) ?_; intro A3 c3 w3 hown3 _ hb3 _; rw [Nat.zero_add, List.nil_append] at hown3; have hbw3 := hbw1.trans (Below.mono (B := w1.heap.size) (Below.trans (Below.alloc (Below.refl _ _) (Nat.le_refl _) _) hb3) hbw1.size); rw [Nat.zero_add]; obtain ⟨g, rfl, hbg, hgl, hc, hf2⟩ := own_at hown3 (clc_get HX.out).2.2; have HO := Lib.hid hown3; clear hown3 hb3))
    all_goals
      refine bodyPost_ret (v := .tuple #[.slice (some ⟨g, 0, none⟩) n c3, .int .i64 0]) (by simp [results, Try.results16, go_sem]) rfl ?_
      rw [E.out]
      refine ⟨_, _, _, rfl, ?_, hbw3.setCell (by have := hbw1.size; exact Nat.le_trans this hbg) _⟩
      rw [← clc_set2 _ HX.out]
      exact own_more (own_set HO.out (k * 3 + 2) _).1 hbw1.size

theorem ract_any (A : Option Addr) (n c : Nat) (L : List Cl) (a id pos : Int) (off : Bool) (w : World) (h : ClAt w A n c L) (hA : A = none ∨ (∃ b o, A = some ⟨b, o, none⟩) ∨ (∃ ad, A = some ad ∧ c = 0)) :
    Calls Try.prog 16 #[.slice A n c, .int .i64 a, .int .i64 id, .int .i64 pos, .bool off] w fun e w' => RactRes w (oneM L a id pos off) e w' := by
  by_cases hb : rightB L = false ∨ id < 1 ∨ 1073741824 < id ∨ (a = 0 ∨ a = 2) ∧ (pos < 0 ∨ 1099511627776 < pos)
  · exact (ract_bad A n c L a id pos off w h hb).mono fun e w' h => h.ract
  · have hr : rightB L = true := by
      cases e : rightB L
      · exact absurd (.inl e) hb
      · rfl
    have h1 : ¬ id < 1 := fun e => hb (.inr (.inl e))
    have h2 : ¬ 1073741824 < id := fun e => hb (.inr (.inr (.inl e)))
    have h4 : ¬ ((a = 0 ∨ a = 2) ∧ (pos < 0 ∨ 1099511627776 < pos)) := fun e => hb (.inr (.inr (.inr e)))
    clear hb
    by_cases a0 : a = 0
    · subst a0
      exact (ract_add A n c L id pos off w h hA hr (by omega) (by omega)).mono fun e w' h => h.ract
    by_cases a1 : a = 1
    · subst a1
      exact ract_drop A n c L id pos off w h hr (by omega)
    by_cases a2 : a = 2
    · subst a2
      exact (ract_commit A n c L id pos off w h hr (by omega) (by omega)).mono fun e w' h => h.ract
    exact (ract_turn A n c L a id pos off w h hr (by omega) ⟨a0, a1, a2⟩).mono fun e w' h => h.ract
end Go.Proofs.Ytongakhcmdkeiaa
