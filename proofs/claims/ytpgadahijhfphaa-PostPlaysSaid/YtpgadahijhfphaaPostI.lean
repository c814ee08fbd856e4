/- few, alike: the walks. -/
import Derived.Test.YtpgadahijhfphaaPostH
import Derived.Laws.BytesArg
namespace Go.Proofs.Ytpgadahijhfphaa
open Go.RowKit

/-- 'string(b)'. -/
theorem run_str {w : World} {B n c : Nat} {A : Option Addr} {l : List Int} (h : Reads w B 1 A n c (cells .u8 l)) : (convert 28 9 (.slice A n c)).run Try.prog w = .ok (.string (strOfNums l)) w := by
  have hl := h.length
  by_cases h0 : 0 < n
  · obtain ⟨b, o, rfl, hb, hc⟩ := h.2.2.2.2 h0
    exact run_convert_bytes_arg w 28 5 Try.underlying28 Try.underlying5 b o n c l hl (fun i hi => by
      rw [hc i _ (cells_get (List.getElem?_eq_getElem (by omega)))]
      simp [List.getD, List.getElem?_eq_getElem (show i < l.length by omega)]) 9 Try.underlying9
  · obtain rfl : n = 0 := by omega
    have : l = [] := List.eq_nil_of_length_eq_zero hl
    subst this
    rcases A with _ | ⟨b, o, s⟩
    · exact run_convert_bytes_nil w 28 5 Try.underlying28 Try.underlying5 0 c 9 Try.underlying9
    · rw [run_convert_bytes_string w 28 9 5 _ 0 c Try.underlying28 Try.underlying5 Try.underlying9, run_bytesToString w _ 0 c [] (by simp [loadCells]; rfl)]
      rfl

/-- The cells of the law's own row. -/
def rpc : List (Int × List Int) → List Value
  | [] => []
  | (t, l) :: r => .int .i64 t :: .string (strOfNums l) :: rpc r
theorem rpc_length : ∀ L, (rpc L).length = L.length * 2
  | [] => rfl
  | (_, _) :: r => by simp only [rpc, List.length_cons, rpc_length r]; omega
theorem rpc_append : ∀ L M, rpc (L ++ M) = rpc L ++ rpc M
  | [], _ => rfl
  | (_, _) :: r, M => by simp only [rpc, List.cons_append, rpc_append r M]
theorem rpc_take : ∀ (L : List (Int × List Int)) (i : Nat), rpc (L.take i) = (rpc L).take (i * 2)
  | [], i => by simp [rpc]
  | _ :: _, 0 => by simp [rpc]
  | (_, _) :: r, i + 1 => by
    rw [show (i + 1) * 2 = i * 2 + 1 + 1 by omega]
    simp only [rpc, List.take_succ_cons, rpc_take r i]
theorem rpc_drop : ∀ (L : List (Int × List Int)) (i : Nat), rpc (L.drop i) = (rpc L).drop (i * 2)
  | [], i => by simp [rpc]
  | _ :: _, 0 => by simp
  | (_, _) :: r, i + 1 => by
    rw [show (i + 1) * 2 = i * 2 + 1 + 1 by omega]
    simp only [rpc, List.drop_succ_cons, rpc_drop r i]
theorem rpc_get : ∀ {L : List (Int × List Int)} {i : Nat} {t : Int} {l : List Int}, L[i]? = some (t, l) → (rpc L)[i * 2]? = some (.int .i64 t) ∧ (rpc L)[i * 2 + 1]? = some (.string (strOfNums l))
  | [], i, _, _, h => by simp at h
  | (_, _) :: r, 0, _, _, h => by
    simp at h
    obtain ⟨rfl, rfl⟩ := h
    exact ⟨rfl, rfl⟩
  | (_, _) :: r, i + 1, t, l, h => by
    rw [show (i + 1) * 2 = i * 2 + 1 + 1 by omega]
    simp only [rpc, List.getElem?_cons_succ] at h ⊢
    exact rpc_get h
theorem rpc_oneCell : ∀ L, ∀ u ∈ rpc L, u.oneCell' = true
  | [], u, h => by simp [rpc] at h
  | (_, _) :: r, u, h => by
    simp only [rpc, List.mem_cons] at h
    rcases h with rfl | rfl | h
    · rfl
    · rfl
    · exact rpc_oneCell r u h

set_option maxHeartbeats 1000000 in
theorem alike_yes (B Br n c cr : Nat) (A Ar : Option Addr) (L : List Pcl) (w : World) (h : RowM w B A n c L) (hr : w.ownsRow Br 33 2 (.slice Ar n cr) n (rpc (L.map says))) (hn : n ≤ 1000) :
    Calls Try.prog 14 #[.slice A n c, .slice Ar n cr] w fun e w' => e = .returned (.bool true) ∧ Below w.heap.size w w' := by
  obtain ⟨M, m1, m2, m3⟩ := h
  have hlM : M.length = n := by have := m2.1; rw [plc_length] at this; omega
  have hget : ∀ k, k < n → ∃ t A1 n1 c1 l, M[k]? = some (t, A1, n1, c1, l) ∧ (L.map says)[k]? = some (t, l) := fun k hk => by
    obtain ⟨⟨t, A1, n1, c1, l⟩, hx⟩ : ∃ x, M[k]? = some x := ⟨_, List.getElem?_eq_getElem (by omega)⟩
    exact ⟨t, A1, n1, c1, l, hx, by rw [← m1, List.getElem?_map, hx]; rfl⟩
  have HG := Lib.hid hget
  have M2 := Lib.hid m2
  have M3 := Lib.hid m3
  have HR := Lib.hid hr
  clear m1 m2 m3 hr hlM hget
  have dn : ((n : Int) != (n : Int)) = false := by simp
  go_enter Try.func14, Try.ntmps14
  go_wp2_with fail
  go_loopg [5] n (fun gk i wr => ∃ (k nq : Nat), k + gk = n ∧ i = .int .i64 (k : Nat) ∧ w.drewN nq = wr)
  case atStart => exact ⟨0, 0, by omega, rfl, rfl⟩
  case round =>
    obtain ⟨k, nq0, hk, rfl, hwr⟩ := hrel
    have HK := Lib.hid hk
    have hkn : k ≤ n := by omega
    clear hk
    by_cases hlt : k < n
    · obtain ⟨t, A1, n1, c1, l, hx, hy⟩ := HG.out k hlt
      obtain ⟨p0, p1⟩ := plc_get hx
      obtain ⟨r0, r1⟩ := rpc_get hy
      have hq := fun nq => run_str ((Reads.of_own (M3.out _ (List.mem_of_getElem? hx)).1).drewN nq)
      obtain ⟨g, rfl, -, -, x0, -⟩ := own_at M2.out p0
      obtain ⟨g', e, -, -, x1, -⟩ := own_at M2.out p1
      cases e
      obtain ⟨g2, rfl, -, -, y0, -⟩ := own_at HR.out r0
      obtain ⟨g', e, -, -, y1, -⟩ := own_at HR.out r1
      cases e
      have x0' : wr.cell? ⟨g, k * 2, none⟩ = some (.int .i64 t) := by rw [← hwr]; exact x0
      have x1' : wr.cell? ⟨g, k * 2 + 1, none⟩ = some (.slice A1 n1 c1) := by rw [← hwr]; exact x1
      have y0' : wr.cell? ⟨g2, k * 2, none⟩ = some (.int .i64 t) := by rw [← hwr]; exact y0
      have y1' : wr.cell? ⟨g2, k * 2 + 1, none⟩ = some (.string (strOfNums l)) := by rw [← hwr]; exact y1
      have hq1 : ∀ nq, (convert 28 9 (.slice A1 n1 c1)).run Try.prog (wr.drewN nq) = .ok (.string (strOfNums l)) (wr.drewN nq) := fun nq => by
        have := hq (nq0 + nq)
        rw [← World.drewN_drewN, hwr] at this
        exact this
      have hq0 : (convert 28 9 (.slice A1 n1 c1)).run Try.prog wr = .ok (.string (strOfNums l)) wr := hq1 0
      have HWR := Lib.hid hwr
      have b0 : (0 : Int) ≤ (k : Int) := by omega
      have bk : (k : Int) < (n : Int) := by omega
      have j1 : (t != t) = false := by simp
      clear hwr hx hy p0 p1 r0 r1 x0 x1 y0 y1 hq
      go_wp2_with fail
      go_quiet (fail)
      go_wp2_with fail
      go_roundg (n - (k + 1))
      case measure => have := HK.out; omega
      case rel => exact ⟨k + 1, _, by omega, by go_num, by rw [← HWR.out, World.drewN_drewN]⟩
    · obtain rfl : k = n := by omega
      go_wp2_with fail
      go_ret
      exact ⟨rfl, by rw [← hwr]; exact below_drewN (Below.refl _ _) _⟩
end Go.Proofs.Ytpgadahijhfphaa
