/- Put: the walk. Conditions: those that each theorem states. -/
import Derived.Test.YtongakhcmdkeiaaClS
import Derived.LoopN
namespace Go.Proofs.Ytongakhcmdkeiaa
open Go.RowKit

def bitN (f : Bool) : Nat := if f then 1 else 0
def rowB : Cl → List Int
  | (i, p, f) => vl i.toNat ++ vl p.toNat ++ vl (bitN f)
def rowsB (L : List Cl) : List Int := L.flatMap rowB
def putM (L : List Cl) : List Int := vl L.length ++ rowsB L
theorem rowsB_snoc {L : List Cl} {k : Nat} {x : Cl} (h : L[k]? = some x) : rowsB (L.take (k + 1)) = rowsB (L.take k) ++ rowB x := by
  unfold rowsB
  rw [take_snoc h, List.flatMap_append]
  simp
theorem own_q {w : World} {B q q' c' : Nat} {A' : Option Addr} {l : List Int} {n : Nat} (hq : l.length = q) (h : w.ownsRow B 5 1 (.slice A' q' c') q' (cells .u8 (l ++ vl n))) : q' ≤ q + 9 ∧ (l ++ vl n).length = q' := by
  have e := own_length h
  have h2 : (vl n).length ≤ 9 := varF_len 8 n
  rw [List.length_append] at e
  refine ⟨by omega, by rw [List.length_append]; exact e⟩

/-- Bytes and an error. -/
def PutRes (w : World) (R : Option (List Int)) (e : Ending) (w' : World) : Prop :=
  match R with
  | some l => ∃ A' n' c', e = .returned (.tuple #[.slice A' n' c', .int .i64 0]) ∧ w'.ownsRow w.heap.size 5 1 (.slice A' n' c') n' (cells .u8 l) ∧ Below w.heap.size w w'
  | none => e = .returned (.tuple #[.slice none 0 0, .int .i64 1]) ∧ Below w.heap.size w w'
theorem ixa (a b c : Value) : ∀ w, (Instr.index 55 (.agg #[a, b, c]) (.int .i64 0)).run Try.prog w = .ok a w := fun _ => by kernel_rfl
theorem ixb (a b c : Value) : ∀ w, (Instr.index 55 (.agg #[a, b, c]) (.int .i64 1)).run Try.prog w = .ok b w := fun _ => by kernel_rfl
theorem ixc (a b c : Value) : ∀ w, (Instr.index 55 (.agg #[a, b, c]) (.int .i64 2)).run Try.prog w = .ok c w := fun _ => by kernel_rfl

set_option maxRecDepth 20000 in
set_option maxHeartbeats 4000000 in
theorem put_any (A : Option Addr) (n c : Nat) (L : List Cl) (w : World) (h : ClAt w A n c L) :
    Calls Try.prog 10 #[.slice A n c] w fun e w' => PutRes w (if rightB L then some (putM L) else none) e w' := by
  have hbig := h.big
  have hlen := cl_length h
  cases hr : rightB L
  · clear hlen
    go_enter Try.func10, Try.ntmps10
    go_wp2_with fail
    refine (right_any _ _ _ L _ h).mono ?_
    rintro e w1 ⟨rfl, hb1⟩
    rw [hr]
    go_wp2_with fail
    refine bodyPost_ret (v := .tuple #[.slice none 0 0, .int .i64 1]) (by simp [results, Try.results10, go_sem]) rfl ?_
    exact ⟨rfl, hb1⟩
  have hn : n ≤ 4 := by have := rightB_len hr; omega
  have HR := Lib.hid hr
  have HL := Lib.hid hlen
  clear hr hlen
  go_enter Try.func10, Try.ntmps10
  go_wp2_with fail
  refine (right_any _ _ _ L _ h).mono ?_
  rintro e w1 ⟨rfl, hb1⟩
  rw [HR.out]
  go_wp2_with fail
  refine (var_any none 0 0 n [] _ (Reads.nil_ _ _ _) (by omega) (by omega)).mono ?_
  rintro e w2 ⟨A2, c2, q2, rfl, hown2, hb2⟩
  have hb12 := hb1.trans (hb2.mono hb1.size)
  have hq2 := own_q (q := 0) rfl hown2
  go_wp2_with fail
  go_loopg [4, 6, 7, 9, 18] n (fun gk s _ _ _ i wr => ∃ (k q : Nat) (A' : Option Addr) (c' : Nat), k + gk = n ∧ i = .int .i64 (k : Nat) ∧ s = .slice A' q c' ∧ wr.ownsRow w.heap.size 5 1 (.slice A' q c') q (cells .u8 (vl n ++ rowsB (L.take k))) ∧ Below w.heap.size w wr ∧ q ≤ 9 + 27 * k)
  case atStart => exact ⟨0, q2, A2, c2, by omega, rfl, rfl, (by have := own_more hown2 hb1.size; simpa [rowsB] using this), hb12, by omega⟩
  case round =>
    obtain ⟨k, q, A', c', hk, rfl, rfl, hown, hb, hq⟩ := hrel
    have HK := Lib.hid hk
    have hkn : k ≤ n := by omega
    clear hk hown2 hq2
    by_cases hlt : k < n
    · obtain ⟨b, o, ci, cp, cf, rfl, hbb, hx, x0, x1, x2⟩ := cl_at (h.below hb) hlt
      have hmay := mayB_is (rf_may (rightB_from HR.out) hx)
      obtain ⟨ni, rfl⟩ : ∃ ni : Nat, ci = (ni : Int) := ⟨ci.toNat, by omega⟩
      obtain ⟨np, rfl⟩ : ∃ np : Nat, cp = (np : Int) := ⟨cp.toNat, by omega⟩
      have hsn := rowsB_snoc hx
      have HS := Lib.hid hsn
      have hi63 : ni < 2 ^ 63 := by omega
      have hp63 : np < 2 ^ 63 := by omega
      have HI := Lib.hid hi63
      have HP := Lib.hid hp63
      have b0 : (0 : Int) ≤ (k : Int) := by omega
      have bk : (k : Int) < (n : Int) := by omega
      have hl0 := own_length hown
      have HL0 := Lib.hid hl0
      have hrd := Reads.of_own hown
      have HRD := Lib.hid hrd
      have hsz := hb.size
      obtain ⟨nf, hnf⟩ : ∃ nf : Nat, nf = bitN cf := ⟨_, rfl⟩
      have hf63 : nf < 2 ^ 63 := by rw [hnf]; unfold bitN; split <;> omega
      have HF63 := Lib.hid hf63
      have HNF := Lib.hid hnf
      clear hx hsn hi63 hp63 hmay hl0 hrd hf63 hnf hown
      cases cf
      · obtain rfl : nf = 0 := HNF.out
        have IA := ixa (.int .i64 ni) (.int .i64 np) (.int .i64 0)
        have IB := ixb (.int .i64 ni) (.int .i64 np) (.int .i64 0)
        have IC := ixc (.int .i64 ni) (.int .i64 np) (.int .i64 0)
        go_wp2_with fail
        refine wp_loop_rounds 4 ?_
        rw [rounds_succ]
        go_wp2_with fail
        have hb0 : Below wr.heap.size wr (wr.alloc (.cells #[.int .i64 ni, .int .i64 np, .bool false] 42)) := (Below.refl _ _).alloc (Nat.le_refl _) _
        refine (var_any A' q c' ni _ _ (HRD.out.next hb0) (by omega) HI.out).mono ?_
        rintro e w3 ⟨A3, c3, q3, rfl, hown3, hb3⟩
        obtain ⟨hq3, hl3⟩ := own_q HL0.out hown3
        have hbz3 := below_next (v := wr) hb0 hb3
        have rd3 := Reads.of_own hown3
        clear hb0 hb3
        go_wp2_with fail
        rw [rounds_succ]
        go_wp2_with fail
        refine (var_any A3 q3 c3 np _ _ (rd3) (by omega) HP.out).mono ?_
        rintro e w4 ⟨A4, c4, q4, rfl, hown4, hb4⟩
        obtain ⟨hq4, hl4⟩ := own_q hl3 hown4
        have hbz4 := below_next (v := wr) hbz3 hb4
        have rd4 := Reads.of_own hown4
        clear hb4 hbz3 rd3 hown3
        go_wp2_with fail
        rw [rounds_succ]
        go_wp2_with fail
        refine (var_any A4 q4 c4 0 _ _ (rd4) (by omega) (by decide)).mono ?_
        rintro e w5 ⟨A5, c5, q5, rfl, hown5, hb5⟩
        obtain ⟨hq5, hl5⟩ := own_q hl4 hown5
        have hbz5 := below_next (v := wr) hbz4 hb5
        have rd5 := Reads.of_own hown5
        have hbz4s : w.heap.size ≤ w4.heap.size := Nat.le_trans hb.size hbz4.size
        clear hb5 hbz4 rd4 hown4
        go_wp2_with fail
        rw [rounds_succ]
        go_wp2_with fail
        go_roundg (n - (k + 1))
        case measure => have := HK.out; omega
        case rel =>
          refine ⟨k + 1, q5, A5, c5, by omega, by go_num, rfl, ?_, hb.trans (hbz5.mono hb.size), by omega⟩
          have e : vl n ++ rowsB (L.take (k + 1)) = vl n ++ rowsB (L.take k) ++ vl ni ++ vl np ++ vl 0 := by
            rw [HS.out]
            simp [rowB, bitN, List.append_assoc]
          rw [e]
          refine own_more hown5 ?_
          have := hbz4s
          omega
      · obtain rfl : nf = 1 := HNF.out
        have IA := ixa (.int .i64 ni) (.int .i64 np) (.int .i64 1)
        have IB := ixb (.int .i64 ni) (.int .i64 np) (.int .i64 1)
        have IC := ixc (.int .i64 ni) (.int .i64 np) (.int .i64 1)
        go_wp2_with fail
        refine wp_loop_rounds 4 ?_
        rw [rounds_succ]
        go_wp2_with fail
        have hb0 : Below wr.heap.size wr (wr.alloc (.cells #[.int .i64 ni, .int .i64 np, .bool true] 42)) := (Below.refl _ _).alloc (Nat.le_refl _) _
        refine (var_any A' q c' ni _ _ (HRD.out.next hb0) (by omega) HI.out).mono ?_
        rintro e w3 ⟨A3, c3, q3, rfl, hown3, hb3⟩
        obtain ⟨hq3, hl3⟩ := own_q HL0.out hown3
        have hbz3 := below_next (v := wr) hb0 hb3
        have rd3 := Reads.of_own hown3
        clear hb0 hb3
        go_wp2_with fail
        rw [rounds_succ]
        go_wp2_with fail
        refine (var_any A3 q3 c3 np _ _ (rd3) (by omega) HP.out).mono ?_
        rintro e w4 ⟨A4, c4, q4, rfl, hown4, hb4⟩
        obtain ⟨hq4, hl4⟩ := own_q hl3 hown4
        have hbz4 := below_next (v := wr) hbz3 hb4
        have rd4 := Reads.of_own hown4
        clear hb4 hbz3 rd3 hown3
        go_wp2_with fail
        rw [rounds_succ]
        go_wp2_with fail
        refine (var_any A4 q4 c4 1 _ _ (rd4) (by omega) (by decide)).mono ?_
        rintro e w5 ⟨A5, c5, q5, rfl, hown5, hb5⟩
        obtain ⟨hq5, hl5⟩ := own_q hl4 hown5
        have hbz5 := below_next (v := wr) hbz4 hb5
        have rd5 := Reads.of_own hown5
        have hbz4s : w.heap.size ≤ w4.heap.size := Nat.le_trans hb.size hbz4.size
        clear hb5 hbz4 rd4 hown4
        go_wp2_with fail
        rw [rounds_succ]
        go_wp2_with fail
        go_roundg (n - (k + 1))
        case measure => have := HK.out; omega
        case rel =>
          refine ⟨k + 1, q5, A5, c5, by omega, by go_num, rfl, ?_, hb.trans (hbz5.mono hb.size), by omega⟩
          have e : vl n ++ rowsB (L.take (k + 1)) = vl n ++ rowsB (L.take k) ++ vl ni ++ vl np ++ vl 1 := by
            rw [HS.out]
            simp [rowB, bitN, List.append_assoc]
          rw [e]
          refine own_more hown5 ?_
          have := hbz4s
          omega
    · obtain rfl : k = n := by omega
      go_wp2_with fail
      refine bodyPost_ret (v := .tuple #[.slice A' q c', .int .i64 0]) (by simp [results, Try.results10, go_sem]) rfl ?_
      refine ⟨A', q, c', rfl, ?_, hb⟩
      unfold putM
      rw [HL.out]
      have e : L.take k = L := List.take_of_length_le (by rw [HL.out]; exact Nat.le_refl _)
      rw [e] at hown
      exact hown
end Go.Proofs.Ytongakhcmdkeiaa

