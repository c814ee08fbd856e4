/- The law ClientBack: the walk. Conditions: those that each theorem states. -/
import Derived.Test.YtongakhcmdkeiaaClU
namespace Go.Proofs.Ytongakhcmdkeiaa
open Go.RowKit

theorem rowB_len (x : Cl) : (rowB x).length ≤ 27 := by
  obtain ⟨i, p, f⟩ := x
  have h1 : (vl i.toNat).length ≤ 9 := varF_len 8 _
  have h2 : (vl p.toNat).length ≤ 9 := varF_len 8 _
  have h3 : (vl (bitN f)).length ≤ 9 := varF_len 8 _
  simp only [rowB, List.length_append]
  omega
theorem rowsB_len : ∀ L : List Cl, (rowsB L).length ≤ 27 * L.length
  | [] => by simp [rowsB]
  | x :: r => by
    have := rowsB_len r
    have := rowB_len x
    have e : rowsB (x :: r) = rowB x ++ rowsB r := by simp [rowsB]
    rw [e, List.length_append, List.length_cons]
    omega
theorem putM_len {L : List Cl} (h : rightB L = true) : 1 ≤ (putM L).length ∧ (putM L).length ≤ 117 := by
  have h1 : (vl L.length).length ≤ 9 := varF_len 8 _
  have h0 : 0 < (vl L.length).length := vl_pos 8 _
  have h2 := rowsB_len L
  have h3 := rightB_len h
  unfold putM
  rw [List.length_append]
  omega

set_option maxRecDepth 20000 in
set_option maxHeartbeats 4000000 in
theorem back_law (A : Option Addr) (n c : Nat) (L0 : List Actc) (more : Int) (w : World) (h : ActsAt w A n c L0) (hmore : 0 ≤ more ∧ more < 256) :
    Calls Try.prog 3 #[.slice A n c, .int .u8 more] w fun e w' => e = .returned (.bool true) ∧ Below w.heap.size w w' := by
  have hbig := h.big
  have HMO := Lib.hid hmore
  clear hmore
  by_cases h40 : 40 < n
  · have d1 : decide (40 < n) = true := dec_yes h40
    go_enter Try.func3, Try.ntmps3
    go_wp2_with fail
    refine (known_any _).mono ?_
    rintro e w1 ⟨rfl, hb1⟩
    go_wp2_with fail
    go_ret
    exact ⟨rfl, hb1⟩
  have hn : n ≤ 40 := by omega
  clear h40
  obtain ⟨i0, hi0, hz0, hz1, hz2⟩ := info_parts info5
  go_enter Try.func3, Try.ntmps3
  go_wp2_with fail
  go_loopg [5, 6, 7, 8] n (fun gk a i _ _ wr => ∃ (k m ca : Nat) (A1 : Option Addr) (L : List Cl), k + gk = n ∧ i = .int .i64 (k : Nat) ∧ a = .slice A1 m ca ∧ ClAt wr A1 m ca L ∧ Below w.heap.size w wr ∧ Hid (rightB L = true))
  case atStart => exact ⟨0, 0, 0, none, [], by omega, rfl, rfl, Reads.nil_ _ _ _, Below.refl _ _, Lib.hid rfl⟩
  case round =>
    obtain ⟨k, m, ca, A1, L, hk, rfl, rfl, h1, hb, HR⟩ := hrel
    have HK := Lib.hid hk
    have hkn : k ≤ n := by omega
    clear hk
    by_cases hlt : k < n
    · obtain ⟨b, o, ax, ix, px, fx, rfl, hbb, hx, x0, x1, x2, x3⟩ := acs_at (h.below hb) hlt
      clear hx
      have b0 : (0 : Int) ≤ (k : Int) := by omega
      have bk : (k : Int) < (n : Int) := by omega
      have H1 := Lib.hid h1
      clear h1
      go_wp2_with fail
      refine (one_any A1 m ca L ax ix px fx _ H1.out).mono ?_
      rintro e w5 ⟨A5, n5, c5, rfl, hown5, hb5⟩
      have hri := one_right HR.out ax ix px fx
      generalize oneM L ax ix px fx = R at hown5 hri ⊢
      have hcl5 : ClAt w5 A5 n5 c5 R.1 := Reads.of_own hown5
      obtain ⟨ee, hee⟩ : ∃ ee, ee = R.2 := ⟨_, rfl⟩
      rw [← hee] at hri ⊢
      have HRI := Lib.hid hri
      clear hown5 hee hri
      by_cases hok : ee = 0
      · have e1 : (ee == 0) = true := by simp [hok]
        have HR2 : Hid (rightB R.1 = true) := Lib.hid (HRI.out hok)
        clear hok
        go_wp2_with fail
        go_roundg (n - (k + 1))
        case measure => have := HK.out; omega
        case rel => exact ⟨k + 1, n5, c5, A5, R.1, by omega, by go_num, rfl, hcl5, hb.trans (hb5.mono hb.size), HR2⟩
      · have e1 : (ee == 0) = false := by simp [hok]
        clear hok
        go_wp2_with fail
        go_roundg (n - (k + 1))
        case measure => have := HK.out; omega
        case rel => exact ⟨k + 1, m, ca, A1, L, by omega, by go_num, rfl, H1.out.next hb5, hb.trans (hb5.mono hb.size), HR⟩
    · obtain rfl : k = n := by omega
      clear h
      have hlm := cl_length h1
      have HLM := Lib.hid hlm
      have hmb : m ≤ 4 := by have := rightB_len HR.out; omega
      have H1 := Lib.hid h1
      clear hlm h1
      go_wp2_with fail
      refine (put_any A1 m ca L _ H1.out).mono ?_
      rintro e w2 h2
      rw [HR.out] at h2
      obtain ⟨A2, n2, c2, rfl, hown2, hb2⟩ := h2
      have hlen2 := own_length hown2
      have hpl := putM_len HR.out
      obtain ⟨j, rfl⟩ : ∃ j, n2 = j + 1 := ⟨n2 - 1, by omega⟩
      have hj : j ≤ 116 := by omega
      rcases own_addr hown2 with ⟨rfl, h0, rfl⟩ | ⟨g, rfl⟩
      · omega
      have hjc : j + 1 ≤ c2 := (own_room hown2).2.2.1
      have rd2 := Reads.of_own hown2
      have RD2 := Lib.hid rd2
      have htk : (putM L).take j = (putM L).dropLast := by rw [List.dropLast_eq_take, hlen2, Nat.add_sub_cancel]
      have rd3 := Reads.take rd2 (k := j) (by omega) (by decide)
      rw [Nat.mul_one, cells_take, htk] at rd3
      have RD3 := Lib.hid rd3
      have hbp := put_bytes HR.out
      have HBP := Lib.hid hbp
      clear hown2 rd2 rd3 htk hbp hlen2 hpl
      go_wp2_with fail
      refine (get_any (some ⟨g, 0, none⟩) (j + 1) c2 (putM L) _ RD2.out HBP.out (by omega)).mono ?_
      rw [get_put HR.out]
      rintro e w3 ⟨A3, n3, c3, rfl, hown3, hb3⟩
      obtain rfl : n3 = m := by have := own_cl (L := L) hown3; have := HLM.out; omega
      have hcl3 : ClAt w3 A3 n3 c3 L := Reads.of_own hown3
      clear hown3
      go_wp2_with fail
      refine (same_any A1 A3 n3 ca c3 L _ (H1.out.next (below_next hb2 hb3)) hcl3).mono ?_
      rintro e w4 ⟨rfl, hb4⟩
      have hb24 := below_next (v := w2) hb3 hb4
      have z1 : IntKind.i64.wrap ((j : Int) + 1 - 1) = (j : Int) := by rw [Int.add_sub_cancel]; exact IntWalk.i64_in _ (by omega)
      have z2 : IntKind.i64.wrap (j : Int) = (j : Int) := IntWalk.i64_in _ (by omega)
      have z3 : (0 : Int) ≤ (j : Int) := by omega
      have z4 : (j : Int) ≤ (c2 : Int) := by omega
      have z5 : j ≤ c2 := by omega
      have z6 : ¬ ((j : Int) + 1 = 0) := by omega
      clear hcl3 hb3 hb4
      go_wp2_with fail
      refine (get_any (some ⟨g, 0, none⟩) j c2 (putM L).dropLast _ (RD3.out.next hb24) (fun x hx => HBP.out x (by rw [List.dropLast_eq_take] at hx; exact List.mem_of_mem_take hx)) (by omega)).mono ?_
      rw [get_less HR.out]
      rintro e w5 ⟨A5, n5, c5, rfl, hown5, hb5⟩
      have hb25 := below_next (v := w2) hb24 hb5
      clear hown5 hb5
      have RD5 := Lib.hid (RD2.out.next hb25)
      go_wp2_with (first
        | (at_builtin; refine wpList_append_reads _ rfl (.tmp 76) (.tmp 77) 30 rfl w5.heap.size 5 i0 _ 1 1 Try.underlying30 hi0 hz0 hz1 hz2 rfl (by decide) (.slice (some ⟨w5.heap.size, 0, none⟩) 0 0) 0 [] rfl (World.ownsRow_made w5 #[] 0 (Nat.le_refl _) (Nat.zero_le _) (by simp)) w5.heap.size _ (j + 1) c2 (cells .u8 (putM L)) rfl (RD5.out.alloc (Nat.le_refl _) _) (cells_oneCell _ _) (by simp only [maxLen]; omega) (by omega) (by simp) ?_; intro A6 c6 w6 hown6 _ hb6 _; rw [Nat.zero_add, List.nil_append] at hown6; rw [Nat.zero_add])
        | (at_builtin; go_loud (refine wpList_append_new w6 #[.int .u8 more] 5 rfl (.tmp 78) (.tmp 80) 30 rfl w5.heap.size 5 i0 _ 1 1 Try.underlying30 hi0 hz0 hz1 hz2 rfl (by decide) (.slice A6 (j + 1) c6) (j + 1) _ rfl hown6 1 rfl rfl (by intro u hu; simp at hu; subst hu; rfl) (by simp only [maxLen]; omega) (by omega) (by have := hb6.size; simp at this; omega) ?_; intro A7 c7 w7 hown7 _ hb7 _)))
      have hb57 : Below w5.heap.size w5 w7 := (((Below.refl _ _).alloc (Nat.le_refl _) _).trans hb6).trans hb7
      have rd7 := Reads.of_own hown7
      rw [← cells_one, ← cells_append] at rd7
      have hb27 := below_next (v := w2) hb25 hb57
      clear hown6 hown7 hb6 hb7 hb57
      refine (get_any A7 (j + 1 + 1) c7 (putM L ++ [more]) _ rd7 (bytes_append HBP.out (fun y hy => by simp at hy; subst hy; exact HMO.out)) (by omega)).mono ?_
      rw [get_more HR.out HMO.out]
      rintro e w8 ⟨A8, n8, c8, rfl, hown8, hb8⟩
      have hb28 := below_next (v := w2) hb27 hb8
      clear hown8 rd7 hb8
      go_wp2_with fail
      refine (right_any A1 n3 ca L _ (H1.out.next (below_next hb2 hb28))).mono ?_
      rintro e w9 ⟨rfl, hb9⟩
      rw [HR.out]
      go_wp2_with fail
      refine (known_any _).mono ?_
      rintro e w10 ⟨rfl, hb10⟩
      go_wp2_with fail
      go_ret
      exact ⟨rfl, hb.trans (Below.mono (B := wr.heap.size) (below_next (below_next (below_next hb2 hb28) hb9) hb10) hb.size)⟩
end Go.Proofs.Ytongakhcmdkeiaa
