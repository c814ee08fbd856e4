/- The law ClientPlays: the walk. Conditions: those that each theorem states. -/
import Derived.Test.YtongakhcmdkeiaaClN
namespace Go.Proofs.Ytongakhcmdkeiaa
open Go.RowKit

set_option maxRecDepth 20000 in
set_option maxHeartbeats 4000000 in
theorem plays_law (A : Option Addr) (n c : Nat) (L0 : List Actc) (w : World) (h : ActsAt w A n c L0) :
    Calls Try.prog 6 #[.slice A n c] w fun e w' => e = .returned (.bool true) ∧ Below w.heap.size w w' := by
  have hbig := h.big
  by_cases h60 : 60 < n
  · have d1 : decide (60 < n) = true := dec_yes h60
    go_enter Try.func6, Try.ntmps6
    go_wp2_with fail
    refine (known_any _).mono ?_
    rintro e w1 ⟨rfl, hb1⟩
    go_wp2_with fail
    go_ret
    exact ⟨rfl, hb1⟩
  have hn : n ≤ 60 := by omega
  clear h60
  go_enter Try.func6, Try.ntmps6
  go_wp2_with fail
  go_loopg [3, 4, 5, 6, 7, 8, 9, 10] n (fun gk a b i _ _ _ _ _ wr => ∃ (k m ca cb : Nat) (A1 A2 : Option Addr) (L : List Cl), k + gk = n ∧ i = .int .i64 (k : Nat) ∧ a = .slice A1 m ca ∧ b = .slice A2 m cb ∧ ClAt wr A1 m ca L ∧ ClAt wr A2 m cb L ∧ Hid (A2 = none ∨ ∃ b o, A2 = some ⟨b, o, none⟩) ∧ Below w.heap.size w wr)
  case atStart => exact ⟨0, 0, 0, 0, none, none, [], by omega, rfl, rfl, rfl, Reads.nil_ _ _ _, Reads.nil_ _ _ _, Lib.hid (.inl rfl), Below.refl _ _⟩
  case round =>
    obtain ⟨k, m, ca, cb, A1, A2, L, hk, rfl, rfl, rfl, h1, h2, HF, hb⟩ := hrel
    have HK := Lib.hid hk
    have hkn : k ≤ n := by omega
    clear hk
    by_cases hlt : k < n
    · obtain ⟨b, o, ax, ix, px, fx, rfl, hbb, hx, x0, x1, x2, x3⟩ := acs_at (h.below hb) hlt
      clear hx
      have hm7 : bits .and .i64 ix 7 = ix % 8 := i64_mask 3 (by decide) ix 7 (by decide)
      have hm3 : bits .and .i64 ax 3 = ax % 4 := i64_mask 2 (by decide) ax 3 (by decide)
      obtain ⟨y, hy⟩ : ∃ y : Int, ix % 8 = y := ⟨_, rfl⟩
      obtain ⟨z, hz⟩ : ∃ z : Int, ax % 4 = z := ⟨_, rfl⟩
      have hy2 : 0 ≤ y ∧ y < 8 := by omega
      rw [hy] at hm7
      rw [hz] at hm3
      clear hy hz
      obtain ⟨id, hid⟩ : ∃ id : Int, 1 + y = id := ⟨_, rfl⟩
      have wid : IntKind.i64.wrap (1 + y) = id := by rw [← hid]; exact IntWalk.i64_in _ (by omega)
      have b0 : (0 : Int) ≤ (k : Int) := by omega
      have bk : (k : Int) < (n : Int) := by omega
      clear hid hy2
      have H1 := Lib.hid h1
      have H2 := Lib.hid h2
      clear h1 h2
      go_wp2_with fail
      have hbx : Below wr.heap.size wr (wr.alloc (.cells #[.int .i64 z, .int .i64 id, .int .i64 px, .bool fx] 29)) := (Below.refl _ _).alloc (Nat.le_refl _) _
      refine (one_any A1 m ca L z id px fx _ (H1.out.next hbx)).mono ?_
      rintro e w5 ⟨A5, n5, c5, rfl, hown5, hb5⟩
      generalize hR : oneM L z id px fx = R at hown5 ⊢
      have HR := Lib.hid hR
      have k5 : w5.heap[wr.heap.size]? = some (.cells #[.int .i64 z, .int .i64 id, .int .i64 px, .bool fx] 29 (0, 0)) := (hb5.block _ (by simp)).trans (blk_new rfl)
      have f5 := blk_cell k5
      have z5 := blk_lt k5
      have hb05 := below_next (v := wr) hbx hb5
      have hn5 := own_cl hown5
      have hcl5 : ClAt w5 A5 n5 c5 R.1 := Reads.of_own hown5
      have HC5 := Lib.hid hcl5
      have HN5 := Lib.hid hn5
      clear hown5 hcl5 hn5 hR hb5 k5
      go_wp2_with fail
      refine (ract_any A2 m cb L z id px fx _ (H2.out.next hb05) HF.out).mono ?_
      rintro e w6 ⟨A6, n6, c6, rfl, hcl6, hf6, hb6⟩
      rw [HR.out] at hcl6 ⊢
      obtain rfl : n6 = n5 := by have := cl_length hcl6; have := HN5.out; omega
      have HC6 := Lib.hid hcl6
      have HF6 := Lib.hid hf6
      have hb06 := below_next (v := wr) hb05 hb6
      clear hcl6 hf6
      obtain ⟨ee, hee⟩ : ∃ ee, ee = R.2 := ⟨_, rfl⟩
      rw [← hee]
      have e0 : (ee != ee) = false := by simp
      clear hee
      go_wp2_with fail
      refine (same_any A5 A6 n6 c5 c6 R.1 _ (HC5.out.next hb6) HC6.out).mono ?_
      rintro e w7 ⟨rfl, hb7⟩
      have hb07 := below_next (v := wr) hb06 hb7
      by_cases hok : ee = 0
      · have e1 : (ee == 0) = true := by simp [hok]
        clear hok
        go_wp2_with fail
        go_roundg (n - (k + 1))
        case measure => have := HK.out; omega
        case rel => exact ⟨k + 1, n6, c5, c6, A5, A6, R.1, by omega, by go_num, rfl, rfl, HC5.out.next (below_next hb6 hb7), HC6.out.next hb7, HF6, hb.trans (hb07.mono hb.size)⟩
      · have e1 : (ee == 0) = false := by simp [hok]
        clear hok
        go_wp2_with fail
        go_roundg (n - (k + 1))
        case measure => have := HK.out; omega
        case rel => exact ⟨k + 1, m, ca, cb, A1, A2, L, by omega, by go_num, rfl, rfl, H1.out.next hb07, H2.out.next hb07, HF, hb.trans (hb07.mono hb.size)⟩
    · obtain rfl : k = n := by omega
      go_wp2_with fail
      refine (known_any _).mono ?_
      rintro e w2 ⟨rfl, hb2⟩
      go_wp2_with fail
      go_ret
      exact ⟨rfl, hb.trans (hb2.mono hb.size)⟩
end Go.Proofs.Ytongakhcmdkeiaa
