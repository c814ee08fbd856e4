/- alike, where the law's row reads; what PostPlays carries from round to round. -/
import Derived.Test.YtpgadahijhfphaaPostK
import Derived.Test.YtpgadahijhfphaaApp
namespace Go.Proofs.Ytpgadahijhfphaa
open Go.RowKit

theorem info33 : (Try.prog.info? 33).map (fun i => (i.zero, i.size, i.bytes)) = some (some (.agg #[.int .i64 0, .string ByteArray.empty]), 2, 24) := by kernel_rfl

set_option maxHeartbeats 1000000 in
theorem alike_reads (B Br n c cr : Nat) (A Ar : Option Addr) (L : List Pcl) (w : World) (h : RowM w B A n c L) (hr : Reads w Br 2 Ar n cr (rpc (L.map says))) (hn : n ≤ 1000) :
    Calls Try.prog 14 #[.slice A n c, .slice Ar n cr] w fun e w' => e = .returned (.bool true) ∧ Below w.heap.size w w' := by
  obtain ⟨M, m1, m2, m3⟩ := h
  have hlM : M.length = n := by have := m2.1; rw [plc_length] at this; omega
  have hget : ∀ k, k < n → ∃ t A1 n1 c1 l, M[k]? = some (t, A1, n1, c1, l) ∧ (L.map says)[k]? = some (t, l) := fun k hk => by
    obtain ⟨⟨t, A1, n1, c1, l⟩, hx⟩ : ∃ x, M[k]? = some x := ⟨_, List.getElem?_eq_getElem (by omega)⟩
    exact ⟨t, A1, n1, c1, l, hx, by rw [← m1, List.getElem?_map, hx]; rfl⟩
  have HG := Lib.hid hget
  have M2 := Lib.hid m2
  have M3 := Lib.hid m3
  have HR := Lib.hid hr
  clear m1 m2 m3 hr hlM hget
  have dn : ((n : Int) != (n : Int)) = false := by simp
  go_enter Try.func14, Try.ntmps14
  go_wp2_with fail
  go_loopg [5] n (fun gk i wr => ∃ (k nq : Nat), k + gk = n ∧ i = .int .i64 (k : Nat) ∧ w.drewN nq = wr)
  case atStart => exact ⟨0, 0, by omega, rfl, rfl⟩
  case round =>
    obtain ⟨k, nq0, hk, rfl, hwr⟩ := hrel
    have HK := Lib.hid hk
    have hkn : k ≤ n := by omega
    clear hk
    by_cases hlt : k < n
    · obtain ⟨t, A1, n1, c1, l, hx, hy⟩ := HG.out k hlt
      obtain ⟨p0, p1⟩ := plc_get hx
      obtain ⟨r0, r1⟩ := rpc_get hy
      have hq := fun nq => run_str ((Reads.of_own (M3.out _ (List.mem_of_getElem? hx)).1).drewN nq)
      obtain ⟨g, rfl, -, -, x0, -⟩ := own_at M2.out p0
      obtain ⟨g', e, -, -, x1, -⟩ := own_at M2.out p1
      cases e
      obtain ⟨g2, o2, rfl, -, hcr⟩ := HR.out.2.2.2.2 (by omega)
      have y0 := hcr _ _ r0
      have y1 := hcr _ _ r1
      rw [← Nat.add_assoc] at y1
      have x0' : wr.cell? ⟨g, k * 2, none⟩ = some (.int .i64 t) := by rw [← hwr]; exact x0
      have x1' : wr.cell? ⟨g, k * 2 + 1, none⟩ = some (.slice A1 n1 c1) := by rw [← hwr]; exact x1
      have y0' : wr.cell? ⟨g2, o2 + k * 2, none⟩ = some (.int .i64 t) := by rw [← hwr]; exact y0
      have y1' : wr.cell? ⟨g2, o2 + k * 2 + 1, none⟩ = some (.string (strOfNums l)) := by rw [← hwr]; exact y1
      have hq1 : ∀ nq, (convert 28 9 (.slice A1 n1 c1)).run Try.prog (wr.drewN nq) = .ok (.string (strOfNums l)) (wr.drewN nq) := fun nq => by
        have := hq (nq0 + nq)
        rw [← World.drewN_drewN, hwr] at this
        exact this
      have hq0 : (convert 28 9 (.slice A1 n1 c1)).run Try.prog wr = .ok (.string (strOfNums l)) wr := hq1 0
      have HWR := Lib.hid hwr
      have b0 : (0 : Int) ≤ (k : Int) := by omega
      have bk : (k : Int) < (n : Int) := by omega
      have j1 : (t != t) = false := by simp
      clear hwr hx hy p0 p1 r0 r1 x0 x1 y0 y1 hq hcr
      go_wp2_with fail
      go_quiet (fail)
      go_wp2_with fail
      go_roundg (n - (k + 1))
      case measure => have := HK.out; omega
      case rel => exact ⟨k + 1, _, by omega, by go_num, by rw [← HWR.out, World.drewN_drewN]⟩
    · obtain rfl : k = n := by omega
      go_wp2_with fail
      go_ret
      exact ⟨rfl, by rw [← hwr]; exact below_drewN (Below.refl _ _) _⟩

/-- What PostPlays carries from round to round. -/
def Play (w : World) (b : Nat) (L : List Pcl) (Ar : Option Addr) (cr : Nat) (wr : World) : Prop :=
  ∃ F, PostAt wr b F L ∧ (∀ k, F k → w.heap.size ≤ k) ∧ Below w.heap.size w wr ∧ Reads wr wr.heap.size 2 Ar L.length cr (rpc (L.map says)) ∧ (∀ a, Ar = some a → 0 < L.length → ¬ F a.block)
theorem Play.below {w wr w' : World} {b cr : Nat} {L : List Pcl} {Ar : Option Addr} (h : Play w b L Ar cr wr) (hb : Below wr.heap.size wr w') : Play w b L Ar cr w' := by
  obtain ⟨F, h1, h2, h3, h4, h5⟩ := h
  exact ⟨F, h1.below hb, h2, h3.trans (hb.mono h3.size), h4.next hb, h5⟩
theorem PostAt.lt {w : World} {b : Nat} {F : Nat → Prop} {L : List Pcl} (h : PostAt w b F L) : ∀ k, F k → k < w.heap.size := by obtain ⟨_, _, _, _, _, _, _, q, _⟩ := h; exact q
theorem PostAt.le {w : World} {b : Nat} {F : Nat → Prop} {L : List Pcl} (h : PostAt w b F L) : L.length ≤ 40 := by obtain ⟨_, _, _, _, _, _, _, _, q⟩ := h; exact q
/-- A row that the call does not touch reads as before. -/
theorem Reads.fr_ {w w' : World} {F : Nat → Prop} {size n c : Nat} {A : Option Addr} {xs : List Value} (h : Reads w w.heap.size size A n c xs) (hf : Fr F w w') (hn : ∀ a, A = some a → 0 < n → ¬ F a.block) : Reads w' w'.heap.size size A n c xs :=
  ⟨h.1, h.2.1, h.2.2.1, h.2.2.2.1, fun h0 => by
    obtain ⟨b, o, e, hb, hc⟩ := h.2.2.2.2 h0
    exact ⟨b, o, e, Nat.lt_of_lt_of_le hb hf.size, fun j u hu => (hf.cell (p := ⟨b, o + j, none⟩) hb (hn ⟨b, o, none⟩ e h0)).trans (hc j u hu)⟩⟩
/-- A new row of the law's own, made since world wq. -/
theorem Play.mk {w wq w' : World} {b n cr : Nat} {F : Nat → Prop} {L : List Pcl} {Ar : Option Addr} (h1 : PostAt wq b F L) (h2 : ∀ k, F k → w.heap.size ≤ k) (h3 : Below w.heap.size w wq) (hb : Below wq.heap.size wq w')
    (hn : L.length = n) (he : OwnE w' wq.heap.size 33 2 Ar n cr (rpc (L.map says))) : Play w b L Ar cr w' := by
  subst hn
  refine ⟨F, h1.below hb, h2, h3.trans (hb.mono h3.size), he.reads, fun a ha h0 hF => ?_⟩
  have hk := h1.lt _ hF
  rcases own_addr (he.2 h0) with e | ⟨g, e, e2, _⟩
  · rw [e] at ha; cases ha
  · rw [e] at ha
    cases ha
    simp at hk
    omega
end Go.Proofs.Ytpgadahijhfphaa
