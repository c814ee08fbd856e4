/- few, known: the walks. -/
import Derived.Test.YtpgadahijhfphaaPostI
import Derived.Lib.SlBytesConst
namespace Go.Proofs.Ytpgadahijhfphaa
open Go.RowKit

/-- A call of the law's: what, to, i, and its bytes. -/
abbrev Actc : Type := Int × Int × Int × Option Addr × Nat × Nat × List Int
def acs : List Actc → List Value
  | [] => []
  | (a, t, i, A, n, c, _) :: r => .int .i64 a :: .int .i64 t :: .int .i64 i :: .slice A n c :: acs r
theorem acs_length : ∀ L, (acs L).length = L.length * 4
  | [] => rfl
  | (_, _, _, _, _, _, _) :: r => by simp only [acs, List.length_cons, acs_length r]; omega
theorem acs_get : ∀ {L : List Actc} {k : Nat} {a t i : Int} {A : Option Addr} {n c : Nat} {l : List Int}, L[k]? = some (a, t, i, A, n, c, l) → (acs L)[k * 4]? = some (.int .i64 a) ∧ (acs L)[k * 4 + 1]? = some (.int .i64 t) ∧ (acs L)[k * 4 + 2]? = some (.int .i64 i) ∧ (acs L)[k * 4 + 3]? = some (.slice A n c)
  | [], k, _, _, _, _, _, _, _, h => by simp at h
  | (_, _, _, _, _, _, _) :: r, 0, _, _, _, _, _, _, _, h => by
    simp at h
    obtain ⟨rfl, rfl, rfl, rfl, rfl, rfl, rfl⟩ := h
    exact ⟨rfl, rfl, rfl, rfl⟩
  | (_, _, _, _, _, _, _) :: r, k + 1, _, _, _, _, _, _, _, h => by
    rw [show (k + 1) * 4 = k * 4 + 1 + 1 + 1 + 1 by omega]
    simp only [acs, List.getElem?_cons_succ] at h ⊢
    exact acs_get h

/-- The calls that came in. -/
def ActsAt (w : World) (B : Nat) (A : Option Addr) (n c : Nat) (L : List Actc) : Prop :=
  Reads w B 4 A n c (acs L) ∧ ∀ x ∈ L, Reads w B 1 x.2.2.2.1 x.2.2.2.2.1 x.2.2.2.2.2.1 (cells .u8 x.2.2.2.2.2.2)
theorem ActsAt.length {w : World} {B n c : Nat} {A : Option Addr} {L : List Actc} (h : ActsAt w B A n c L) : L.length = n := by
  have := h.1.1; rw [acs_length] at this; omega
theorem ActsAt.below {w w' : World} {B n c : Nat} {A : Option Addr} {L : List Actc} (h : ActsAt w B A n c L) (hb : Below B w w') : ActsAt w' B A n c L := ⟨h.1.below hb, fun x hx => (h.2 x hx).below hb⟩
/-- One of them. -/
theorem ActsAt.at_ {w : World} {B n c : Nat} {A : Option Addr} {L : List Actc} (h : ActsAt w B A n c L) {k : Nat} (hk : k < n) :
    ∃ b o a t i A1 n1 c1 l, A = some ⟨b, o, none⟩ ∧ b < B ∧ L[k]? = some (a, t, i, A1, n1, c1, l) ∧ w.cell? ⟨b, o + k * 4, none⟩ = some (.int .i64 a) ∧ w.cell? ⟨b, o + k * 4 + 1, none⟩ = some (.int .i64 t) ∧ w.cell? ⟨b, o + k * 4 + 2, none⟩ = some (.int .i64 i) ∧ w.cell? ⟨b, o + k * 4 + 3, none⟩ = some (.slice A1 n1 c1) ∧ Reads w B 1 A1 n1 c1 (cells .u8 l) := by
  obtain ⟨⟨a, t, i, A1, n1, c1, l⟩, hx⟩ : ∃ x, L[k]? = some x := ⟨_, List.getElem?_eq_getElem (by rw [h.length]; exact hk)⟩
  obtain ⟨b, o, e, hb, hc⟩ := h.1.2.2.2.2 (by omega)
  obtain ⟨p0, p1, p2, p3⟩ := acs_get hx
  exact ⟨b, o, a, t, i, A1, n1, c1, l, e, hb, hx, hc _ _ p0, by rw [Nat.add_assoc]; exact hc _ _ p1, by rw [Nat.add_assoc]; exact hc _ _ p2, by rw [Nat.add_assoc]; exact hc _ _ p3, h.2 _ (List.mem_of_getElem? hx)⟩

/-- Few, and short. -/
def fewB (L : List Actc) : Bool := (L.all fun x => decide (x.2.2.2.2.1 ≤ 5000)) && decide (L.length ≤ 120)
theorem few_no {L : List Actc} {k : Nat} {x : Actc} (h : L[k]? = some x) (hx : 5000 < x.2.2.2.2.1) : fewB L = false := by
  unfold fewB
  rw [Bool.and_eq_false_iff]
  left
  rw [List.all_eq_false]
  exact ⟨x, List.mem_of_getElem? h, by simp; exact hx⟩
theorem few_end {L : List Actc} (h : ∀ (k : Nat) (x : Actc), L[k]? = some x → x.2.2.2.2.1 ≤ 5000) : fewB L = decide (L.length ≤ 120) := by
  unfold fewB
  have : (L.all fun x => decide (x.2.2.2.2.1 ≤ 5000)) = true := by
    rw [List.all_eq_true]
    intro x hx
    obtain ⟨k, hk⟩ := List.getElem?_of_mem hx
    simpa using h k x hk
  rw [this, Bool.true_and]
theorem few_is {L : List Actc} (h : fewB L = true) : L.length ≤ 120 ∧ ∀ x ∈ L, x.2.2.2.2.1 ≤ 5000 := by
  unfold fewB at h
  rw [Bool.and_eq_true] at h
  exact ⟨of_decide_eq_true h.2, fun x hx => by have := List.all_eq_true.1 h.1 x hx; simpa using this⟩

theorem few_any (A : Option Addr) (n c : Nat) (L : List Actc) (w : World) (h : ActsAt w w.heap.size A n c L) :
    Calls Try.prog 6 #[.slice A n c] w fun e w' => e = .returned (.bool (fewB L)) ∧ w = w' := by
  have hbig := h.1.big
  have HL := Lib.hid h.length
  go_enter Try.func6, Try.ntmps6
  go_wp2_with fail
  go_loop [3] (fun i => ∃ k : Nat, k ≤ n ∧ i = .int .i64 (k : Nat) ∧ Hid (∀ (j : Nat) (x : Actc), j < k → L[j]? = some x → x.2.2.2.2.1 ≤ 5000)) (fun i => n - (intOf i).toNat)
  case atStart => exact ⟨0, Nat.zero_le _, rfl, Lib.hid (fun j x hj => absurd hj (Nat.not_lt_zero _))⟩
  case round =>
    obtain ⟨k, hk, rfl, HI⟩ := hrel
    by_cases hlt : k < n
    · obtain ⟨b, o, a, t, i, A1, n1, c1, l, rfl, hb, hx, y0, y1, y2, y3, hr⟩ := h.at_ hlt
      have HX := Lib.hid hx
      clear hx hr
      by_cases h5 : 5000 < n1
      · have d1 : decide (5000 < (n1 : Int)) = true := dec_yes (by omega)
        have d1' : decide (5000 < n1) = true := dec_yes h5
        go_wp2_with fail
        go_ret
        exact ⟨ret_bool (few_no HX.out h5).symm, rfl⟩
      · have d1 : decide (5000 < (n1 : Int)) = false := dec_no (by omega)
        have d1' : decide (5000 < n1) = false := dec_no h5
        go_wp2_with fail
        go_round
        case rel =>
          refine ⟨k + 1, by omega, by go_num, Lib.hid (fun j x hj hx => ?_)⟩
          by_cases e : j = k
          · subst e
            have := HX.out
            rw [hx] at this
            cases this
            show n1 ≤ 5000
            omega
          · exact HI.out j x (by omega) hx
        case measure => simp [intOf]; omega
    · obtain rfl : k = n := by omega
      go_wp2_with fail
      go_ret
      refine ⟨ret_bool ?_, rfl⟩
      rw [few_end (fun j x hx => HI.out j x (by have := (List.getElem?_eq_some_iff.1 hx).1; rw [HL.out] at this; exact this) hx), HL.out]
      exact bool_of (by simp; omega)

theorem take_none (b : Nat) (F : Nat → Prop) (w : World) (hp : PostAt w b F []) : Calls Try.prog 11 #[.pointer (some ⟨b, 0, none⟩), .int .i64 0] w fun e w' => e = .returned (.tuple #[.agg #[.int .i64 0, .slice none 0 0], .bool false]) ∧ Below w.heap.size w w' :=
  take_no b 0 F [] w hp (.inr (by simp))

set_option maxHeartbeats 1000000 in
theorem known_any (w : World) : Calls Try.prog 7 #[] w fun e w' => e = .returned (.bool true) ∧ Below w.heap.size w w' := by
  have kc := fun (w : World) (C : Array Value) (n c : Nat) => Lib.run_convert_bytes_const (P := Try.prog) w 28 5 C n c Try.underlying28 Try.underlying5
  go_enter Try.func7, Try.ntmps7
  go_wp2_with fail
  refine (new_any _).mono ?_
  rintro e w1 ⟨rfl, hw1⟩
  have hp := new_post w
  rw [hw1] at hp
  have hb1 : Below w.heap.size w w1 := by rw [← hw1]; exact (by repeat (first | with_reducible exact Below.refl _ _ | with_reducible assumption | with_reducible refine Below.drew ?_ | with_reducible refine below_drewN ?_ _ | with_reducible refine Below.setCell ?_ (by first | omega | (simp <;> omega)) _ | with_reducible refine Below.alloc ?_ (by first | omega | (simp <;> omega)) _))
  have HP := Lib.hid hp
  clear hw1 hp
  go_wp2_with fail
  refine (len_post HP.out).mono ?_
  rintro e w2 ⟨rfl, rfl⟩
  go_wp2_with fail
  obtain ⟨R, c0, h1, -⟩ := HP.out
  refine (send_no w.heap.size 0 0 0 c0 none R 3 _ h1 (.inr (.inl (by decide))) (by decide) (by decide)).mono ?_
  rintro e w2 ⟨rfl, rfl⟩
  clear h1
  go_wp2_with fail
  refine (take_none _ _ _ HP.out).mono ?_
  rintro e w2 ⟨rfl, hb2⟩
  have hp2 := HP.out.below hb2
  have hw2 := hb1.trans (hb2.mono hb1.size)
  have HP2 := Lib.hid hp2
  clear hb2 hp2 hb1 HP
  go_upto_region 5 with fail
  obtain ⟨wq, hwq⟩ : ∃ v, v = w2.alloc (.cells #[.int .i64 0, .slice none 0 0] 35) := ⟨_, rfl⟩
  have hbq : Below w2.heap.size w2 wq := by rw [hwq]; exact (Below.refl _ _).alloc (Nat.le_refl _) _
  rw [← hwq]
  have hpq := HP2.out.below hbq
  have hwq2 := hw2.trans (hbq.mono hw2.size)
  have HPQ := Lib.hid hpq
  clear hwq hbq hpq HP2 hw2
  go_wp2_with fail
  have hb5 : Below wq.heap.size wq (wq.alloc (.cells #[.int .u8 97] 5 (1, 2))) := (Below.refl _ _).alloc (Nat.le_refl _) _
  have hr : Reads (wq.alloc (.cells #[.int .u8 97] 5 (1, 2))) (wq.alloc (.cells #[.int .u8 97] 5 (1, 2))).heap.size 1 (some ⟨wq.heap.size, 0, none⟩) 1 1 (cells .u8 [97]) :=
    ⟨rfl, Nat.le_refl _, by decide, (fun h => by cases h), fun _ => ⟨wq.heap.size, 0, rfl, by simp, fun j u hu => by
      rw [Nat.zero_add, cell_of_row _ wq.heap.size j #[.int .u8 97] 5 (1, 2) (heap_alloc_new wq _)]
      simpa [cells] using hu⟩⟩
  refine (send_yes w.heap.size 1 1 _ 1 [97] _ [] _ (HPQ.out.below hb5) hr (.inl rfl) (by decide) (by decide)).mono ?_
  rintro e w6 ⟨rfl, hs⟩
  obtain ⟨A', c', F', s1, s2, s3⟩ := hs
  have S1 := Lib.hid s1
  have hw6 : Below w.heap.size w w6 := hwq2.trans (Below.trans (B := w.heap.size) (a := wq) (hb5.mono hwq2.size) (s2.below (by have := hwq2.size; simp; omega) (fun k hk => by rw [hk]; exact Nat.le_refl _)))
  clear s1 s2 s3 hb5 hr hwq2
  go_wp2_with fail
  refine (len_post S1.out).mono ?_
  rintro e w7 ⟨rfl, rfl⟩
  go_wp2_with fail
  go_ret
  exact ⟨rfl, hw6⟩
end Go.Proofs.Ytpgadahijhfphaa
