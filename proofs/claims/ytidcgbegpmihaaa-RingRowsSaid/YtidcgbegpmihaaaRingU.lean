/- The law RingRows: the walk. Printed by gen_rows.py. -/
import Derived.Test.YtidcgbegpmihaaaRingT
import Derived.Test.YtidcgbegpmihaaaRingS
import Derived.Test.YtidcgbegpmihaaaRingH
import Derived.Test.YtidcgbegpmihaaaRingM
namespace Go.Proofs.Ytidcgbegpmihaaa
open Go.RowKit

theorem rows_step {l : List Int} {k : Nat} {x : Int} (h : l[k]? = some x) : ((l.take k).map szOf ++ l.drop k).set k (szOf x) = (l.take (k + 1)).map szOf ++ l.drop (k + 1) := by
  obtain ⟨hk, rfl⟩ := List.getElem?_eq_some_iff.1 h
  rw [List.set_append_right _ _ (by simp; omega), take_snoc h, List.map_append, List.append_assoc]
  congr 1
  have e : k - ((l.take k).map szOf).length = 0 := by simp; omega
  rw [e, List.drop_eq_getElem_cons hk]
  rfl

set_option maxRecDepth 20000 in
set_option maxHeartbeats 4000000 in
theorem rows_raw (a b c at_ s0 t0 t1 t2 t3 : Int) (A1 : Option Addr) (n cap : Nat) (l1 : List Int) (w : World) (h1 : Reads w w.heap.size 1 A1 n cap (cells .i64 l1)) (hat : -9223372036854775808 ≤ at_) (hn : n ≤ 120) :
    Calls Try.prog 6 #[.int .i64 a, .int .i64 b, .int .i64 c, .int .i64 at_, .slice A1 n cap, .agg #[.int .i64 s0, .int .i64 t0, .int .i64 t1, .int .i64 t2, .int .i64 t3], .bool true] w fun e w' => e = .returned (.bool true) ∧ Below w.heap.size w w' := by
  have HB := Lib.hid h1.max
  have HAT0 := Lib.hid hat
  have hle := h1.le
  have hlen := h1.length
  have HL := Lib.hid hlen
  clear hat hlen
  have dn : decide (120 < (n : Int)) = false := dec_no (by omega)
  obtain ⟨i0, hi0, hy0, hy1, hy2⟩ := info_parts info3
  obtain ⟨P, hP⟩ : ∃ P : Int, 1 + a % 4 = P := ⟨_, rfl⟩
  obtain ⟨S, hS⟩ : ∃ S : Int, 4 + b % 256 % 5 = S := ⟨_, rfl⟩
  obtain ⟨sz, hZ⟩ : ∃ sz : Int, 512 + c % 65536 % 3585 = sz := ⟨_, rfl⟩
  have hsh := fun w => shape_any a b c w
  rw [hP, hS, hZ] at hsh
  clear hP hS hZ
  have HAT := HAT0
  go_enter Try.func6, Try.ntmps6
  go_wp2_with fail
  refine (hsh _).mono ?_
  rintro e w1 ⟨rfl, hb1⟩
  have d0 : w1.heap[w.heap.size]? = some (.cells #[.int .i64 s0, .int .i64 t0, .int .i64 t1, .int .i64 t2, .int .i64 t3] 26 (0, 0)) := (hb1.block _ (by simp)).trans (blk_new rfl)
  have z1 := blk_lt d0
  replace hb1 : Below w.heap.size w w1 := Below.trans (B := w.heap.size) (a := w) (Below.alloc (Below.refl _ _) (Nat.le_refl _) _) (hb1.mono (by simp))
  have g1 := h1.next hb1
  clear hsh h1
  have o0 : ((w1.alloc (.cells #[.int .i64 P, .int .i64 S, .int .i64 sz] 23)).alloc (.cells #[] 3)).ownsRow (w1.heap.size + 1) 3 1 (.slice (some ⟨w1.heap.size + 1, 0, none⟩) 0 0) 0 [] := by
    have h := World.ownsRow_made (w1.alloc (.cells #[.int .i64 P, .int .i64 S, .int .i64 sz] 23)) #[] 0 (base := w1.heap.size + 1) (e := 3) (size := 1) (by simp) (Nat.zero_le _) (by simp)
    simpa using h
  have rd0 : Reads ((w1.alloc (.cells #[.int .i64 P, .int .i64 S, .int .i64 sz] 23)).alloc (.cells #[] 3)) w1.heap.size 1 A1 n cap (cells .i64 l1) := Reads.alloc (Reads.alloc g1 (Nat.le_refl _) _) (by simp) _
  have bx1 : ((w1.alloc (.cells #[.int .i64 P, .int .i64 S, .int .i64 sz] 23)).alloc (.cells #[] 3)).heap[w1.heap.size]? = some (.cells #[.int .i64 P, .int .i64 S, .int .i64 sz] 23 (0, 0)) := (blk_old (by simp)).trans (blk_new rfl)
  have bx0 : ((w1.alloc (.cells #[.int .i64 P, .int .i64 S, .int .i64 sz] 23)).alloc (.cells #[] 3)).heap[w.heap.size]? = some (.cells #[.int .i64 s0, .int .i64 t0, .int .i64 t1, .int .i64 t2, .int .i64 t3] 26 (0, 0)) := (blk_old (by simp; omega)).trans ((blk_old z1).trans d0)
  have bel0 : Below w.heap.size w ((w1.alloc (.cells #[.int .i64 P, .int .i64 S, .int .i64 sz] 23)).alloc (.cells #[] 3)) := (hb1.alloc hb1.size _).alloc (by have := hb1.size; simp; omega) _
  have h63 : 0 + n ≤ maxLen := by have := HB.out; simp only [maxLen]; omega
  have hbase : w1.heap.size + 1 ≤ ((w1.alloc (.cells #[.int .i64 P, .int .i64 S, .int .i64 sz] 23)).alloc (.cells #[] 3)).heap.size := by simp
  have O0 := Lib.hid o0
  have RD0 := Lib.hid rd0
  have BX1 := Lib.hid bx1
  have BX0 := Lib.hid bx0
  have BEL0 := Lib.hid bel0
  have H63 := Lib.hid h63
  have HBS := Lib.hid hbase
  clear o0 rd0 bx1 bx0 bel0 h63 hbase
  go_wp2_with (at_builtin; go_loud (refine wpList_append_reads _ rfl (.tmp 26) (.tmp 27) 37 rfl (w1.heap.size + 1) 3 i0 _ 1 8 Try.underlying37 hi0 hy0 hy1 hy2 rfl (by decide) (.slice (some ⟨w1.heap.size + 1, 0, none⟩) 0 0) 0 [] rfl O0.out w1.heap.size A1 n cap (cells .i64 l1) rfl RD0.out (cells_oneCell _ _) H63.out (by omega) HBS.out ?_; intro A2 c2 w2 hown2 _ hb2 _; rw [Nat.zero_add, List.nil_append] at hown2; have e1 := (hb2.block w1.heap.size (Nat.lt_succ_self _)).trans BX1.out; have e0 := (hb2.block w.heap.size (by omega)).trans BX0.out; have hbw := BEL0.out.trans (hb2.mono (by omega)); rw [Nat.zero_add]))
  have rl := Reads.of_own hown2
  have RL := Lib.hid rl
  clear hown2 hb2 hb1 d0 g1 O0 RD0 BX1 BX0 BEL0 HBS
  obtain ⟨ms, hms⟩ : ∃ ms, ms = l1 := ⟨_, rfl⟩
  rw [← hms] at RL rl
  clear hms
  refine wp_loop_rounds 1 ?_
  rw [rounds_succ]
  go_wp2_with fail
  all_goals
    obtain ⟨Z, hZ⟩ : ∃ Z, Z = setsM P S sz at_ ms := ⟨_, rfl⟩
    obtain ⟨N, hN⟩ : ∃ N, N = Z.length := ⟨_, rfl⟩
    obtain ⟨y1, hy1⟩ : ∃ y1, y1 = needM P S sz (0, 0, 0, 0, 0) at_ ms := ⟨_, rfl⟩
    obtain ⟨y2, hy2⟩ : ∃ y2, y2 = needM P S sz (s0, t0, t1, t2, t3) at_ ms := ⟨_, rfl⟩
    have HZ := Lib.hid hZ
    have HN := Lib.hid hN
    have HY1 := Lib.hid hy1
    have HY2 := Lib.hid hy2
    have b1 : (y1 == y1) = true := by simp
    have b2 : (y2 == y2) = true := by simp
    have r0 := blk_lt e0
    have r1 := blk_lt e1
    have ks : ∀ W' : World, Below w2.heap.size w2 W' → (W'.cell? ⟨w1.heap.size, 0, none⟩ = some (.int .i64 P) ∧ W'.cell? ⟨w1.heap.size, 1, none⟩ = some (.int .i64 S) ∧ W'.cell? ⟨w1.heap.size, 2, none⟩ = some (.int .i64 sz) ∧ W'.cell? ⟨w.heap.size, 0, none⟩ = some (.int .i64 s0) ∧ W'.cell? ⟨w.heap.size, 1, none⟩ = some (.int .i64 t0) ∧ W'.cell? ⟨w.heap.size, 2, none⟩ = some (.int .i64 t1) ∧ W'.cell? ⟨w.heap.size, 3, none⟩ = some (.int .i64 t2) ∧ W'.cell? ⟨w.heap.size, 4, none⟩ = some (.int .i64 t3)) := fun W' hb => ⟨(hb.cell (p := ⟨w1.heap.size, 0, none⟩) r1).trans (blk_cell e1 0), (hb.cell (p := ⟨w1.heap.size, 1, none⟩) r1).trans (blk_cell e1 1), (hb.cell (p := ⟨w1.heap.size, 2, none⟩) r1).trans (blk_cell e1 2), (hb.cell (p := ⟨w.heap.size, 0, none⟩) r0).trans (blk_cell e0 0), (hb.cell (p := ⟨w.heap.size, 1, none⟩) r0).trans (blk_cell e0 1), (hb.cell (p := ⟨w.heap.size, 2, none⟩) r0).trans (blk_cell e0 2), (hb.cell (p := ⟨w.heap.size, 3, none⟩) r0).trans (blk_cell e0 3), (hb.cell (p := ⟨w.heap.size, 4, none⟩) r0).trans (blk_cell e0 4)⟩
    have KS := Lib.hid ks
    have q1 := Reads.nil_ w2 w2.heap.size 2
    have q2 := Reads.nil_ w2 w2.heap.size 2
    clear hZ hN hy1 hy2 ks e0 e1 rl
    go_region_held3 (fun W' => W'.cell? ⟨w1.heap.size, 0, none⟩ = some (.int .i64 P) ∧ W'.cell? ⟨w1.heap.size, 1, none⟩ = some (.int .i64 S) ∧ W'.cell? ⟨w1.heap.size, 2, none⟩ = some (.int .i64 sz) ∧ W'.cell? ⟨w.heap.size, 0, none⟩ = some (.int .i64 s0) ∧ W'.cell? ⟨w.heap.size, 1, none⟩ = some (.int .i64 t0) ∧ W'.cell? ⟨w.heap.size, 2, none⟩ = some (.int .i64 t1) ∧ W'.cell? ⟨w.heap.size, 3, none⟩ = some (.int .i64 t2) ∧ W'.cell? ⟨w.heap.size, 4, none⟩ = some (.int .i64 t3))
        (exact KS.out _ (by repeat (first | with_reducible exact Below.refl _ _ | with_reducible assumption | with_reducible refine Below.drew ?_ | with_reducible refine below_drewN ?_ _ | with_reducible refine Below.setCell ?_ (by first | omega | (simp <;> omega)) _ | with_reducible refine Below.alloc ?_ (by first | omega | (simp <;> omega)) _)))
        (first
          | (go_at_call 16; refine (sets_all _ _ _ _ _ _ _ ms _ (RL.out.next (by repeat (first | with_reducible exact Below.refl _ _ | with_reducible assumption | with_reducible refine Below.drew ?_ | with_reducible refine below_drewN ?_ _ | with_reducible refine Below.setCell ?_ (by first | omega | (simp <;> omega)) _ | with_reducible refine Below.alloc ?_ (by first | omega | (simp <;> omega)) _))) (by omega)).mono ?_; rintro e wn ⟨A4, c4, qn, rfl, ho, hbn⟩; rw [← HZ.out] at ho; have hqn : qn = N := (by have hq := own_len ho; rw [pcells_length] at hq; have := HN.out; omega); subst qn; have hbN := below_next (v := w2) (by repeat (first | with_reducible exact Below.refl _ _ | with_reducible assumption | with_reducible refine Below.drew ?_ | with_reducible refine below_drewN ?_ _ | with_reducible refine Below.setCell ?_ (by first | omega | (simp <;> omega)) _ | with_reducible refine Below.alloc ?_ (by first | omega | (simp <;> omega)) _)) hbn; have hsN := hbN.size; have q1N := Reads.next q1 (below_next (by repeat (first | with_reducible exact Below.refl _ _ | with_reducible assumption | with_reducible refine Below.drew ?_ | with_reducible refine below_drewN ?_ _ | with_reducible refine Below.setCell ?_ (by first | omega | (simp <;> omega)) _ | with_reducible refine Below.alloc ?_ (by first | omega | (simp <;> omega)) _)) hbn); clear q1; have q1 := q1N; clear q1N; have q2N := Reads.next q2 (below_next (by repeat (first | with_reducible exact Below.refl _ _ | with_reducible assumption | with_reducible refine Below.drew ?_ | with_reducible refine below_drewN ?_ _ | with_reducible refine Below.setCell ?_ (by first | omega | (simp <;> omega)) _ | with_reducible refine Below.alloc ?_ (by first | omega | (simp <;> omega)) _)) hbn); clear q2; have q2 := q2N; clear q2N; clear hbn; clear q1; have q1 := Reads.of_own ho; clear ho)
          | (go_at_call 18; refine (rsets_all _ _ _ _ _ _ _ ms _ (RL.out.next (by repeat (first | with_reducible exact Below.refl _ _ | with_reducible assumption | with_reducible refine Below.drew ?_ | with_reducible refine below_drewN ?_ _ | with_reducible refine Below.setCell ?_ (by first | omega | (simp <;> omega)) _ | with_reducible refine Below.alloc ?_ (by first | omega | (simp <;> omega)) _))) (by omega)).mono ?_; rintro e wn ⟨A5, c5, qn, rfl, ho, hbn⟩; rw [← HZ.out] at ho; have hqn : qn = N := (by have hq := own_len ho; rw [pcells_length] at hq; have := HN.out; omega); subst qn; have hbN := below_next (v := w2) (by repeat (first | with_reducible exact Below.refl _ _ | with_reducible assumption | with_reducible refine Below.drew ?_ | with_reducible refine below_drewN ?_ _ | with_reducible refine Below.setCell ?_ (by first | omega | (simp <;> omega)) _ | with_reducible refine Below.alloc ?_ (by first | omega | (simp <;> omega)) _)) hbn; have hsN := hbN.size; have q1N := Reads.next q1 (below_next (by repeat (first | with_reducible exact Below.refl _ _ | with_reducible assumption | with_reducible refine Below.drew ?_ | with_reducible refine below_drewN ?_ _ | with_reducible refine Below.setCell ?_ (by first | omega | (simp <;> omega)) _ | with_reducible refine Below.alloc ?_ (by first | omega | (simp <;> omega)) _)) hbn); clear q1; have q1 := q1N; clear q1N; have q2N := Reads.next q2 (below_next (by repeat (first | with_reducible exact Below.refl _ _ | with_reducible assumption | with_reducible refine Below.drew ?_ | with_reducible refine below_drewN ?_ _ | with_reducible refine Below.setCell ?_ (by first | omega | (simp <;> omega)) _ | with_reducible refine Below.alloc ?_ (by first | omega | (simp <;> omega)) _)) hbn); clear q2; have q2 := q2N; clear q2N; clear hbn; clear q2; have q2 := Reads.of_own ho; clear ho)
          | (go_at_call 17; refine (same_any A4 A5 N c4 c5 Z _ (q1.next (by repeat (first | with_reducible exact Below.refl _ _ | with_reducible assumption | with_reducible refine Below.drew ?_ | with_reducible refine below_drewN ?_ _ | with_reducible refine Below.setCell ?_ (by first | omega | (simp <;> omega)) _ | with_reducible refine Below.alloc ?_ (by first | omega | (simp <;> omega)) _))) (q2.next (by repeat (first | with_reducible exact Below.refl _ _ | with_reducible assumption | with_reducible refine Below.drew ?_ | with_reducible refine below_drewN ?_ _ | with_reducible refine Below.setCell ?_ (by first | omega | (simp <;> omega)) _ | with_reducible refine Below.alloc ?_ (by first | omega | (simp <;> omega)) _)))).mono ?_; rintro e wn ⟨rfl, hbn⟩; have hbN := below_next (v := w2) (by repeat (first | with_reducible exact Below.refl _ _ | with_reducible assumption | with_reducible refine Below.drew ?_ | with_reducible refine below_drewN ?_ _ | with_reducible refine Below.setCell ?_ (by first | omega | (simp <;> omega)) _ | with_reducible refine Below.alloc ?_ (by first | omega | (simp <;> omega)) _)) hbn; have hsN := hbN.size; have q1N := Reads.next q1 (below_next (by repeat (first | with_reducible exact Below.refl _ _ | with_reducible assumption | with_reducible refine Below.drew ?_ | with_reducible refine below_drewN ?_ _ | with_reducible refine Below.setCell ?_ (by first | omega | (simp <;> omega)) _ | with_reducible refine Below.alloc ?_ (by first | omega | (simp <;> omega)) _)) hbn); clear q1; have q1 := q1N; clear q1N; have q2N := Reads.next q2 (below_next (by repeat (first | with_reducible exact Below.refl _ _ | with_reducible assumption | with_reducible refine Below.drew ?_ | with_reducible refine below_drewN ?_ _ | with_reducible refine Below.setCell ?_ (by first | omega | (simp <;> omega)) _ | with_reducible refine Below.alloc ?_ (by first | omega | (simp <;> omega)) _)) hbn); clear q2; have q2 := q2N; clear q2N; clear hbn)
          | (go_at_call 19; refine (need_all _ _ _ _ _ _ _ _ _ _ _ _ ms _ (RL.out.next (by repeat (first | with_reducible exact Below.refl _ _ | with_reducible assumption | with_reducible refine Below.drew ?_ | with_reducible refine below_drewN ?_ _ | with_reducible refine Below.setCell ?_ (by first | omega | (simp <;> omega)) _ | with_reducible refine Below.alloc ?_ (by first | omega | (simp <;> omega)) _))) (by omega) HAT.out).mono ?_; rintro e wn ⟨he, hbn⟩; (first | rw [← HY1.out] at he | rw [← HY2.out] at he); subst he; have hbN := below_next (v := w2) (by repeat (first | with_reducible exact Below.refl _ _ | with_reducible assumption | with_reducible refine Below.drew ?_ | with_reducible refine below_drewN ?_ _ | with_reducible refine Below.setCell ?_ (by first | omega | (simp <;> omega)) _ | with_reducible refine Below.alloc ?_ (by first | omega | (simp <;> omega)) _)) hbn; have hsN := hbN.size; have q1N := Reads.next q1 (below_next (by repeat (first | with_reducible exact Below.refl _ _ | with_reducible assumption | with_reducible refine Below.drew ?_ | with_reducible refine below_drewN ?_ _ | with_reducible refine Below.setCell ?_ (by first | omega | (simp <;> omega)) _ | with_reducible refine Below.alloc ?_ (by first | omega | (simp <;> omega)) _)) hbn); clear q1; have q1 := q1N; clear q1N; have q2N := Reads.next q2 (below_next (by repeat (first | with_reducible exact Below.refl _ _ | with_reducible assumption | with_reducible refine Below.drew ?_ | with_reducible refine below_drewN ?_ _ | with_reducible refine Below.setCell ?_ (by first | omega | (simp <;> omega)) _ | with_reducible refine Below.alloc ?_ (by first | omega | (simp <;> omega)) _)) hbn); clear q2; have q2 := q2N; clear q2N; clear hbn)
          | (go_at_call 20; refine (rneed_all _ _ _ _ _ _ _ _ _ _ _ _ ms _ (RL.out.next (by repeat (first | with_reducible exact Below.refl _ _ | with_reducible assumption | with_reducible refine Below.drew ?_ | with_reducible refine below_drewN ?_ _ | with_reducible refine Below.setCell ?_ (by first | omega | (simp <;> omega)) _ | with_reducible refine Below.alloc ?_ (by first | omega | (simp <;> omega)) _))) (by omega)).mono ?_; rintro e wn ⟨he, hbn⟩; (first | rw [← HY1.out] at he | rw [← HY2.out] at he); subst he; have hbN := below_next (v := w2) (by repeat (first | with_reducible exact Below.refl _ _ | with_reducible assumption | with_reducible refine Below.drew ?_ | with_reducible refine below_drewN ?_ _ | with_reducible refine Below.setCell ?_ (by first | omega | (simp <;> omega)) _ | with_reducible refine Below.alloc ?_ (by first | omega | (simp <;> omega)) _)) hbn; have hsN := hbN.size; have q1N := Reads.next q1 (below_next (by repeat (first | with_reducible exact Below.refl _ _ | with_reducible assumption | with_reducible refine Below.drew ?_ | with_reducible refine below_drewN ?_ _ | with_reducible refine Below.setCell ?_ (by first | omega | (simp <;> omega)) _ | with_reducible refine Below.alloc ?_ (by first | omega | (simp <;> omega)) _)) hbn); clear q1; have q1 := q1N; clear q1N; have q2N := Reads.next q2 (below_next (by repeat (first | with_reducible exact Below.refl _ _ | with_reducible assumption | with_reducible refine Below.drew ?_ | with_reducible refine below_drewN ?_ _ | with_reducible refine Below.setCell ?_ (by first | omega | (simp <;> omega)) _ | with_reducible refine Below.alloc ?_ (by first | omega | (simp <;> omega)) _)) hbn); clear q2; have q2 := q2N; clear q2N; clear hbn)
          | (go_at_call 14; refine (known_any _).mono ?_; rintro e wn ⟨rfl, hbn⟩; have hbN := below_next (v := w2) (by repeat (first | with_reducible exact Below.refl _ _ | with_reducible assumption | with_reducible refine Below.drew ?_ | with_reducible refine below_drewN ?_ _ | with_reducible refine Below.setCell ?_ (by first | omega | (simp <;> omega)) _ | with_reducible refine Below.alloc ?_ (by first | omega | (simp <;> omega)) _)) hbn; have hsN := hbN.size; have q1N := Reads.next q1 (below_next (by repeat (first | with_reducible exact Below.refl _ _ | with_reducible assumption | with_reducible refine Below.drew ?_ | with_reducible refine below_drewN ?_ _ | with_reducible refine Below.setCell ?_ (by first | omega | (simp <;> omega)) _ | with_reducible refine Below.alloc ?_ (by first | omega | (simp <;> omega)) _)) hbn); clear q1; have q1 := q1N; clear q1N; have q2N := Reads.next q2 (below_next (by repeat (first | with_reducible exact Below.refl _ _ | with_reducible assumption | with_reducible refine Below.drew ?_ | with_reducible refine below_drewN ?_ _ | with_reducible refine Below.setCell ?_ (by first | omega | (simp <;> omega)) _ | with_reducible refine Below.alloc ?_ (by first | omega | (simp <;> omega)) _)) hbn); clear q2; have q2 := q2N; clear q2N; clear hbn))
    all_goals (go_wp2_with fail; go_ret; exact ⟨rfl, hbw.trans (Below.mono (B := w2.heap.size) (by repeat (first | with_reducible exact Below.refl _ _ | with_reducible assumption | with_reducible refine Below.drew ?_ | with_reducible refine below_drewN ?_ _ | with_reducible refine Below.setCell ?_ (by first | omega | (simp <;> omega)) _ | with_reducible refine Below.alloc ?_ (by first | omega | (simp <;> omega)) _)) hbw.size)⟩)

set_option maxRecDepth 20000 in
set_option maxHeartbeats 4000000 in
theorem rows_cut (a b c at_ s0 t0 t1 t2 t3 : Int) (A1 : Option Addr) (n cap : Nat) (l1 : List Int) (w : World) (h1 : Reads w w.heap.size 1 A1 n cap (cells .i64 l1)) (hat : -9223372036854775808 ≤ at_) (hn : n ≤ 120) :
    Calls Try.prog 6 #[.int .i64 a, .int .i64 b, .int .i64 c, .int .i64 at_, .slice A1 n cap, .agg #[.int .i64 s0, .int .i64 t0, .int .i64 t1, .int .i64 t2, .int .i64 t3], .bool false] w fun e w' => e = .returned (.bool true) ∧ Below w.heap.size w w' := by
  have HB := Lib.hid h1.max
  have HAT0 := Lib.hid hat
  have hle := h1.le
  have hlen := h1.length
  have HL := Lib.hid hlen
  clear hat hlen
  have dn : decide (120 < (n : Int)) = false := dec_no (by omega)
  obtain ⟨i0, hi0, hy0, hy1, hy2⟩ := info_parts info3
  obtain ⟨P, hP⟩ : ∃ P : Int, 1 + a % 4 = P := ⟨_, rfl⟩
  obtain ⟨S, hS⟩ : ∃ S : Int, 4 + b % 256 % 5 = S := ⟨_, rfl⟩
  obtain ⟨sz, hZ⟩ : ∃ sz : Int, 512 + c % 65536 % 3585 = sz := ⟨_, rfl⟩
  have hsh := fun w => shape_any a b c w
  rw [hP, hS, hZ] at hsh
  clear hP hS hZ
  have Hd : bits .and .i64 at_ 1048575 = at_ % 1048576 := i64_mask 20 (by decide) at_ 1048575 (by decide)
  obtain ⟨y0, hy⟩ : ∃ y0 : Int, at_ % 1048576 = y0 := ⟨_, rfl⟩
  have y9 : (0 : Int) ≤ y0 := by omega
  have HAT : Hid ((-9223372036854775808 : Int) ≤ y0) := Lib.hid (by omega)
  rw [hy] at Hd
  clear hy
  have g255 : ∀ x, IntKind.i64.wrap (1 + (bits .and .i64 x 255).tmod 90) = szOf x := fun x => by obtain ⟨y, hy, h0, h1⟩ := szOf_y x; unfold szOf; rw [hy]; exact IntWalk.i64_in _ (by omega)
  go_enter Try.func6, Try.ntmps6
  go_wp2_with fail
  refine (hsh _).mono ?_
  rintro e w1 ⟨rfl, hb1⟩
  have d0 : w1.heap[w.heap.size]? = some (.cells #[.int .i64 s0, .int .i64 t0, .int .i64 t1, .int .i64 t2, .int .i64 t3] 26 (0, 0)) := (hb1.block _ (by simp)).trans (blk_new rfl)
  have z1 := blk_lt d0
  replace hb1 : Below w.heap.size w w1 := Below.trans (B := w.heap.size) (a := w) (Below.alloc (Below.refl _ _) (Nat.le_refl _) _) (hb1.mono (by simp))
  have g1 := h1.next hb1
  clear hsh h1
  have o0 : ((w1.alloc (.cells #[.int .i64 P, .int .i64 S, .int .i64 sz] 23)).alloc (.cells #[] 3)).ownsRow (w1.heap.size + 1) 3 1 (.slice (some ⟨w1.heap.size + 1, 0, none⟩) 0 0) 0 [] := by
    have h := World.ownsRow_made (w1.alloc (.cells #[.int .i64 P, .int .i64 S, .int .i64 sz] 23)) #[] 0 (base := w1.heap.size + 1) (e := 3) (size := 1) (by simp) (Nat.zero_le _) (by simp)
    simpa using h
  have rd0 : Reads ((w1.alloc (.cells #[.int .i64 P, .int .i64 S, .int .i64 sz] 23)).alloc (.cells #[] 3)) w1.heap.size 1 A1 n cap (cells .i64 l1) := Reads.alloc (Reads.alloc g1 (Nat.le_refl _) _) (by simp) _
  have bx1 : ((w1.alloc (.cells #[.int .i64 P, .int .i64 S, .int .i64 sz] 23)).alloc (.cells #[] 3)).heap[w1.heap.size]? = some (.cells #[.int .i64 P, .int .i64 S, .int .i64 sz] 23 (0, 0)) := (blk_old (by simp)).trans (blk_new rfl)
  have bx0 : ((w1.alloc (.cells #[.int .i64 P, .int .i64 S, .int .i64 sz] 23)).alloc (.cells #[] 3)).heap[w.heap.size]? = some (.cells #[.int .i64 s0, .int .i64 t0, .int .i64 t1, .int .i64 t2, .int .i64 t3] 26 (0, 0)) := (blk_old (by simp; omega)).trans ((blk_old z1).trans d0)
  have bel0 : Below w.heap.size w ((w1.alloc (.cells #[.int .i64 P, .int .i64 S, .int .i64 sz] 23)).alloc (.cells #[] 3)) := (hb1.alloc hb1.size _).alloc (by have := hb1.size; simp; omega) _
  have h63 : 0 + n ≤ maxLen := by have := HB.out; simp only [maxLen]; omega
  have hbase : w1.heap.size + 1 ≤ ((w1.alloc (.cells #[.int .i64 P, .int .i64 S, .int .i64 sz] 23)).alloc (.cells #[] 3)).heap.size := by simp
  have O0 := Lib.hid o0
  have RD0 := Lib.hid rd0
  have BX1 := Lib.hid bx1
  have BX0 := Lib.hid bx0
  have BEL0 := Lib.hid bel0
  have H63 := Lib.hid h63
  have HBS := Lib.hid hbase
  clear o0 rd0 bx1 bx0 bel0 h63 hbase
  go_wp2_with (at_builtin; go_loud (refine wpList_append_reads _ rfl (.tmp 26) (.tmp 27) 37 rfl (w1.heap.size + 1) 3 i0 _ 1 8 Try.underlying37 hi0 hy0 hy1 hy2 rfl (by decide) (.slice (some ⟨w1.heap.size + 1, 0, none⟩) 0 0) 0 [] rfl O0.out w1.heap.size A1 n cap (cells .i64 l1) rfl RD0.out (cells_oneCell _ _) H63.out (by omega) HBS.out ?_; intro A2 c2 w2 hown2 _ hb2 _; rw [Nat.zero_add, List.nil_append] at hown2; have e1 := (hb2.block w1.heap.size (Nat.lt_succ_self _)).trans BX1.out; have e0 := (hb2.block w.heap.size (by omega)).trans BX0.out; have hbw := BEL0.out.trans (hb2.mono (by omega)); rw [Nat.zero_add]))
  clear hb1 d0 g1 O0 RD0 BX1 BX0 BEL0 HBS
  have K1 := Lib.hid e1
  have K0 := Lib.hid e0
  have hbw2 := hbw
  clear e0 e1 hbw
  go_loopg [17] n (fun gk i wr => ∃ k : Nat, k + gk = n ∧ i = .int .i64 (k : Nat) ∧ wr.ownsRow (w1.heap.size + 1) 3 1 (.slice A2 n c2) n (cells .i64 ((l1.take k).map szOf ++ l1.drop k)) ∧ Below (w1.heap.size + 1) w2 wr)
  case atStart => exact ⟨0, by omega, rfl, by simpa using hown2, Below.refl _ _⟩
  case round =>
    obtain ⟨k, hk, rfl, hown, hb⟩ := hrel
    clear hown2 hb2
    have HK := Lib.hid hk
    have hkn : k ≤ n := by omega
    clear hk
    by_cases hlt : k < n
    · have hlk : k < l1.length := by rw [HL.out]; exact hlt
      obtain ⟨x, hx⟩ : ∃ x, l1[k]? = some x := ⟨_, List.getElem?_eq_getElem hlk⟩
      obtain ⟨g, rfl, hbg, hgl, hc, hf⟩ := own_at hown (j := k) (u := .int .i64 x) (cells_get (by rw [List.getElem?_append_right (by simp; omega)]; simp [Nat.min_eq_left (Nat.le_of_lt hlk), hx]))
      have Hx := Lib.hid hx
      clear hx
      have gx := g255 x
      have gz : (0 : Int) ≤ (k : Int) := by omega
      have gn : (k : Int) < (n : Int) := by omega
      clear g255
      go_wp2_with fail
      go_roundg (n - (k + 1))
      case measure => have := HK.out; omega
      case rel =>
        refine ⟨k + 1, by omega, by go_num, ?_, hb.setCell hbg _⟩
        have e := rows_step Hx.out
        rw [← e, ← cells_set]
        exact (own_set hown k _).1
    · obtain rfl : k = n := by omega
      have e1 := (hb.block w1.heap.size (by omega)).trans K1.out
      have e0 := (hb.block w.heap.size (by omega)).trans K0.out
      have hbw := hbw2.trans (hb.mono (by omega))
      obtain ⟨ms, hms⟩ : ∃ ms, ms = (l1.take k).map szOf ++ l1.drop k := ⟨_, rfl⟩
      rw [← hms] at hown
      have rl := Reads.of_own hown
      have RL := Lib.hid rl
      clear hms hown hbw2 hb g255
      go_wp2_with fail
      obtain ⟨Z, hZ⟩ : ∃ Z, Z = setsM P S sz y0 ms := ⟨_, rfl⟩
      obtain ⟨N, hN⟩ : ∃ N, N = Z.length := ⟨_, rfl⟩
      obtain ⟨y1, hy1⟩ : ∃ y1, y1 = needM P S sz (0, 0, 0, 0, 0) y0 ms := ⟨_, rfl⟩
      obtain ⟨y2, hy2⟩ : ∃ y2, y2 = needM P S sz (s0, t0, t1, t2, t3) y0 ms := ⟨_, rfl⟩
      have HZ := Lib.hid hZ
      have HN := Lib.hid hN
      have HY1 := Lib.hid hy1
      have HY2 := Lib.hid hy2
      have b1 : (y1 == y1) = true := by simp
      have b2 : (y2 == y2) = true := by simp
      have r0 := blk_lt e0
      have r1 := blk_lt e1
      have ks : ∀ W' : World, Below wr.heap.size wr W' → (W'.cell? ⟨w1.heap.size, 0, none⟩ = some (.int .i64 P) ∧ W'.cell? ⟨w1.heap.size, 1, none⟩ = some (.int .i64 S) ∧ W'.cell? ⟨w1.heap.size, 2, none⟩ = some (.int .i64 sz) ∧ W'.cell? ⟨w.heap.size, 0, none⟩ = some (.int .i64 s0) ∧ W'.cell? ⟨w.heap.size, 1, none⟩ = some (.int .i64 t0) ∧ W'.cell? ⟨w.heap.size, 2, none⟩ = some (.int .i64 t1) ∧ W'.cell? ⟨w.heap.size, 3, none⟩ = some (.int .i64 t2) ∧ W'.cell? ⟨w.heap.size, 4, none⟩ = some (.int .i64 t3)) := fun W' hb => ⟨(hb.cell (p := ⟨w1.heap.size, 0, none⟩) r1).trans (blk_cell e1 0), (hb.cell (p := ⟨w1.heap.size, 1, none⟩) r1).trans (blk_cell e1 1), (hb.cell (p := ⟨w1.heap.size, 2, none⟩) r1).trans (blk_cell e1 2), (hb.cell (p := ⟨w.heap.size, 0, none⟩) r0).trans (blk_cell e0 0), (hb.cell (p := ⟨w.heap.size, 1, none⟩) r0).trans (blk_cell e0 1), (hb.cell (p := ⟨w.heap.size, 2, none⟩) r0).trans (blk_cell e0 2), (hb.cell (p := ⟨w.heap.size, 3, none⟩) r0).trans (blk_cell e0 3), (hb.cell (p := ⟨w.heap.size, 4, none⟩) r0).trans (blk_cell e0 4)⟩
      have KS := Lib.hid ks
      have q1 := Reads.nil_ wr wr.heap.size 2
      have q2 := Reads.nil_ wr wr.heap.size 2
      clear hZ hN hy1 hy2 ks e0 e1 rl
      go_region_held3 (fun W' => W'.cell? ⟨w1.heap.size, 0, none⟩ = some (.int .i64 P) ∧ W'.cell? ⟨w1.heap.size, 1, none⟩ = some (.int .i64 S) ∧ W'.cell? ⟨w1.heap.size, 2, none⟩ = some (.int .i64 sz) ∧ W'.cell? ⟨w.heap.size, 0, none⟩ = some (.int .i64 s0) ∧ W'.cell? ⟨w.heap.size, 1, none⟩ = some (.int .i64 t0) ∧ W'.cell? ⟨w.heap.size, 2, none⟩ = some (.int .i64 t1) ∧ W'.cell? ⟨w.heap.size, 3, none⟩ = some (.int .i64 t2) ∧ W'.cell? ⟨w.heap.size, 4, none⟩ = some (.int .i64 t3))
          (exact KS.out _ (by repeat (first | with_reducible exact Below.refl _ _ | with_reducible assumption | with_reducible refine Below.drew ?_ | with_reducible refine below_drewN ?_ _ | with_reducible refine Below.setCell ?_ (by first | omega | (simp <;> omega)) _ | with_reducible refine Below.alloc ?_ (by first | omega | (simp <;> omega)) _)))
          (first
            | (go_at_call 16; refine (sets_all _ _ _ _ _ _ _ ms _ (RL.out.next (by repeat (first | with_reducible exact Below.refl _ _ | with_reducible assumption | with_reducible refine Below.drew ?_ | with_reducible refine below_drewN ?_ _ | with_reducible refine Below.setCell ?_ (by first | omega | (simp <;> omega)) _ | with_reducible refine Below.alloc ?_ (by first | omega | (simp <;> omega)) _))) (by omega)).mono ?_; rintro e wn ⟨A4, c4, qn, rfl, ho, hbn⟩; rw [← HZ.out] at ho; have hqn : qn = N := (by have hq := own_len ho; rw [pcells_length] at hq; have := HN.out; omega); subst qn; have hbN := below_next (v := wr) (by repeat (first | with_reducible exact Below.refl _ _ | with_reducible assumption | with_reducible refine Below.drew ?_ | with_reducible refine below_drewN ?_ _ | with_reducible refine Below.setCell ?_ (by first | omega | (simp <;> omega)) _ | with_reducible refine Below.alloc ?_ (by first | omega | (simp <;> omega)) _)) hbn; have hsN := hbN.size; have q1N := Reads.next q1 (below_next (by repeat (first | with_reducible exact Below.refl _ _ | with_reducible assumption | with_reducible refine Below.drew ?_ | with_reducible refine below_drewN ?_ _ | with_reducible refine Below.setCell ?_ (by first | omega | (simp <;> omega)) _ | with_reducible refine Below.alloc ?_ (by first | omega | (simp <;> omega)) _)) hbn); clear q1; have q1 := q1N; clear q1N; have q2N := Reads.next q2 (below_next (by repeat (first | with_reducible exact Below.refl _ _ | with_reducible assumption | with_reducible refine Below.drew ?_ | with_reducible refine below_drewN ?_ _ | with_reducible refine Below.setCell ?_ (by first | omega | (simp <;> omega)) _ | with_reducible refine Below.alloc ?_ (by first | omega | (simp <;> omega)) _)) hbn); clear q2; have q2 := q2N; clear q2N; clear hbn; clear q1; have q1 := Reads.of_own ho; clear ho)
            | (go_at_call 18; refine (rsets_all _ _ _ _ _ _ _ ms _ (RL.out.next (by repeat (first | with_reducible exact Below.refl _ _ | with_reducible assumption | with_reducible refine Below.drew ?_ | with_reducible refine below_drewN ?_ _ | with_reducible refine Below.setCell ?_ (by first | omega | (simp <;> omega)) _ | with_reducible refine Below.alloc ?_ (by first | omega | (simp <;> omega)) _))) (by omega)).mono ?_; rintro e wn ⟨A5, c5, qn, rfl, ho, hbn⟩; rw [← HZ.out] at ho; have hqn : qn = N := (by have hq := own_len ho; rw [pcells_length] at hq; have := HN.out; omega); subst qn; have hbN := below_next (v := wr) (by repeat (first | with_reducible exact Below.refl _ _ | with_reducible assumption | with_reducible refine Below.drew ?_ | with_reducible refine below_drewN ?_ _ | with_reducible refine Below.setCell ?_ (by first | omega | (simp <;> omega)) _ | with_reducible refine Below.alloc ?_ (by first | omega | (simp <;> omega)) _)) hbn; have hsN := hbN.size; have q1N := Reads.next q1 (below_next (by repeat (first | with_reducible exact Below.refl _ _ | with_reducible assumption | with_reducible refine Below.drew ?_ | with_reducible refine below_drewN ?_ _ | with_reducible refine Below.setCell ?_ (by first | omega | (simp <;> omega)) _ | with_reducible refine Below.alloc ?_ (by first | omega | (simp <;> omega)) _)) hbn); clear q1; have q1 := q1N; clear q1N; have q2N := Reads.next q2 (below_next (by repeat (first | with_reducible exact Below.refl _ _ | with_reducible assumption | with_reducible refine Below.drew ?_ | with_reducible refine below_drewN ?_ _ | with_reducible refine Below.setCell ?_ (by first | omega | (simp <;> omega)) _ | with_reducible refine Below.alloc ?_ (by first | omega | (simp <;> omega)) _)) hbn); clear q2; have q2 := q2N; clear q2N; clear hbn; clear q2; have q2 := Reads.of_own ho; clear ho)
            | (go_at_call 17; refine (same_any A4 A5 N c4 c5 Z _ (q1.next (by repeat (first | with_reducible exact Below.refl _ _ | with_reducible assumption | with_reducible refine Below.drew ?_ | with_reducible refine below_drewN ?_ _ | with_reducible refine Below.setCell ?_ (by first | omega | (simp <;> omega)) _ | with_reducible refine Below.alloc ?_ (by first | omega | (simp <;> omega)) _))) (q2.next (by repeat (first | with_reducible exact Below.refl _ _ | with_reducible assumption | with_reducible refine Below.drew ?_ | with_reducible refine below_drewN ?_ _ | with_reducible refine Below.setCell ?_ (by first | omega | (simp <;> omega)) _ | with_reducible refine Below.alloc ?_ (by first | omega | (simp <;> omega)) _)))).mono ?_; rintro e wn ⟨rfl, hbn⟩; have hbN := below_next (v := wr) (by repeat (first | with_reducible exact Below.refl _ _ | with_reducible assumption | with_reducible refine Below.drew ?_ | with_reducible refine below_drewN ?_ _ | with_reducible refine Below.setCell ?_ (by first | omega | (simp <;> omega)) _ | with_reducible refine Below.alloc ?_ (by first | omega | (simp <;> omega)) _)) hbn; have hsN := hbN.size; have q1N := Reads.next q1 (below_next (by repeat (first | with_reducible exact Below.refl _ _ | with_reducible assumption | with_reducible refine Below.drew ?_ | with_reducible refine below_drewN ?_ _ | with_reducible refine Below.setCell ?_ (by first | omega | (simp <;> omega)) _ | with_reducible refine Below.alloc ?_ (by first | omega | (simp <;> omega)) _)) hbn); clear q1; have q1 := q1N; clear q1N; have q2N := Reads.next q2 (below_next (by repeat (first | with_reducible exact Below.refl _ _ | with_reducible assumption | with_reducible refine Below.drew ?_ | with_reducible refine below_drewN ?_ _ | with_reducible refine Below.setCell ?_ (by first | omega | (simp <;> omega)) _ | with_reducible refine Below.alloc ?_ (by first | omega | (simp <;> omega)) _)) hbn); clear q2; have q2 := q2N; clear q2N; clear hbn)
            | (go_at_call 19; refine (need_all _ _ _ _ _ _ _ _ _ _ _ _ ms _ (RL.out.next (by repeat (first | with_reducible exact Below.refl _ _ | with_reducible assumption | with_reducible refine Below.drew ?_ | with_reducible refine below_drewN ?_ _ | with_reducible refine Below.setCell ?_ (by first | omega | (simp <;> omega)) _ | with_reducible refine Below.alloc ?_ (by first | omega | (simp <;> omega)) _))) (by omega) HAT.out).mono ?_; rintro e wn ⟨he, hbn⟩; (first | rw [← HY1.out] at he | rw [← HY2.out] at he); subst he; have hbN := below_next (v := wr) (by repeat (first | with_reducible exact Below.refl _ _ | with_reducible assumption | with_reducible refine Below.drew ?_ | with_reducible refine below_drewN ?_ _ | with_reducible refine Below.setCell ?_ (by first | omega | (simp <;> omega)) _ | with_reducible refine Below.alloc ?_ (by first | omega | (simp <;> omega)) _)) hbn; have hsN := hbN.size; have q1N := Reads.next q1 (below_next (by repeat (first | with_reducible exact Below.refl _ _ | with_reducible assumption | with_reducible refine Below.drew ?_ | with_reducible refine below_drewN ?_ _ | with_reducible refine Below.setCell ?_ (by first | omega | (simp <;> omega)) _ | with_reducible refine Below.alloc ?_ (by first | omega | (simp <;> omega)) _)) hbn); clear q1; have q1 := q1N; clear q1N; have q2N := Reads.next q2 (below_next (by repeat (first | with_reducible exact Below.refl _ _ | with_reducible assumption | with_reducible refine Below.drew ?_ | with_reducible refine below_drewN ?_ _ | with_reducible refine Below.setCell ?_ (by first | omega | (simp <;> omega)) _ | with_reducible refine Below.alloc ?_ (by first | omega | (simp <;> omega)) _)) hbn); clear q2; have q2 := q2N; clear q2N; clear hbn)
            | (go_at_call 20; refine (rneed_all _ _ _ _ _ _ _ _ _ _ _ _ ms _ (RL.out.next (by repeat (first | with_reducible exact Below.refl _ _ | with_reducible assumption | with_reducible refine Below.drew ?_ | with_reducible refine below_drewN ?_ _ | with_reducible refine Below.setCell ?_ (by first | omega | (simp <;> omega)) _ | with_reducible refine Below.alloc ?_ (by first | omega | (simp <;> omega)) _))) (by omega)).mono ?_; rintro e wn ⟨he, hbn⟩; (first | rw [← HY1.out] at he | rw [← HY2.out] at he); subst he; have hbN := below_next (v := wr) (by repeat (first | with_reducible exact Below.refl _ _ | with_reducible assumption | with_reducible refine Below.drew ?_ | with_reducible refine below_drewN ?_ _ | with_reducible refine Below.setCell ?_ (by first | omega | (simp <;> omega)) _ | with_reducible refine Below.alloc ?_ (by first | omega | (simp <;> omega)) _)) hbn; have hsN := hbN.size; have q1N := Reads.next q1 (below_next (by repeat (first | with_reducible exact Below.refl _ _ | with_reducible assumption | with_reducible refine Below.drew ?_ | with_reducible refine below_drewN ?_ _ | with_reducible refine Below.setCell ?_ (by first | omega | (simp <;> omega)) _ | with_reducible refine Below.alloc ?_ (by first | omega | (simp <;> omega)) _)) hbn); clear q1; have q1 := q1N; clear q1N; have q2N := Reads.next q2 (below_next (by repeat (first | with_reducible exact Below.refl _ _ | with_reducible assumption | with_reducible refine Below.drew ?_ | with_reducible refine below_drewN ?_ _ | with_reducible refine Below.setCell ?_ (by first | omega | (simp <;> omega)) _ | with_reducible refine Below.alloc ?_ (by first | omega | (simp <;> omega)) _)) hbn); clear q2; have q2 := q2N; clear q2N; clear hbn)
            | (go_at_call 14; refine (known_any _).mono ?_; rintro e wn ⟨rfl, hbn⟩; have hbN := below_next (v := wr) (by repeat (first | with_reducible exact Below.refl _ _ | with_reducible assumption | with_reducible refine Below.drew ?_ | with_reducible refine below_drewN ?_ _ | with_reducible refine Below.setCell ?_ (by first | omega | (simp <;> omega)) _ | with_reducible refine Below.alloc ?_ (by first | omega | (simp <;> omega)) _)) hbn; have hsN := hbN.size; have q1N := Reads.next q1 (below_next (by repeat (first | with_reducible exact Below.refl _ _ | with_reducible assumption | with_reducible refine Below.drew ?_ | with_reducible refine below_drewN ?_ _ | with_reducible refine Below.setCell ?_ (by first | omega | (simp <;> omega)) _ | with_reducible refine Below.alloc ?_ (by first | omega | (simp <;> omega)) _)) hbn); clear q1; have q1 := q1N; clear q1N; have q2N := Reads.next q2 (below_next (by repeat (first | with_reducible exact Below.refl _ _ | with_reducible assumption | with_reducible refine Below.drew ?_ | with_reducible refine below_drewN ?_ _ | with_reducible refine Below.setCell ?_ (by first | omega | (simp <;> omega)) _ | with_reducible refine Below.alloc ?_ (by first | omega | (simp <;> omega)) _)) hbn); clear q2; have q2 := q2N; clear q2N; clear hbn))
      all_goals (go_wp2_with fail; go_ret; exact ⟨rfl, hbw.trans (Below.mono (B := wr.heap.size) (by repeat (first | with_reducible exact Below.refl _ _ | with_reducible assumption | with_reducible refine Below.drew ?_ | with_reducible refine below_drewN ?_ _ | with_reducible refine Below.setCell ?_ (by first | omega | (simp <;> omega)) _ | with_reducible refine Below.alloc ?_ (by first | omega | (simp <;> omega)) _)) hbw.size)⟩)

theorem rows_law (a b c at_ s0 t0 t1 t2 t3 : Int) (A1 : Option Addr) (n cap : Nat) (l1 : List Int) (raw : Bool) (w : World) (h1 : Reads w w.heap.size 1 A1 n cap (cells .i64 l1)) (hat : -9223372036854775808 ≤ at_) :
    Calls Try.prog 6 #[.int .i64 a, .int .i64 b, .int .i64 c, .int .i64 at_, .slice A1 n cap, .agg #[.int .i64 s0, .int .i64 t0, .int .i64 t1, .int .i64 t2, .int .i64 t3], .bool raw] w fun e w' => e = .returned (.bool true) ∧ Below w.heap.size w w' := by
  by_cases hn : n ≤ 120
  · cases raw
    · exact rows_cut _ _ _ _ _ _ _ _ _ _ _ _ _ _ h1 hat hn
    · exact rows_raw _ _ _ _ _ _ _ _ _ _ _ _ _ _ h1 hat hn
  · have hbig := h1.big
    have dn : decide (120 < (n : Int)) = true := dec_yes (by omega)
    go_enter Try.func6, Try.ntmps6
    go_wp2_with fail
    refine (known_any _).mono ?_
    rintro e w1 ⟨rfl, hb1⟩
    go_wp2_with fail
    go_ret
    exact ⟨rfl, Below.trans (B := w.heap.size) (a := w) (Below.alloc (Below.refl _ _) (Nat.le_refl _) _) (hb1.mono (by simp))⟩
end Go.Proofs.Ytidcgbegpmihaaa

