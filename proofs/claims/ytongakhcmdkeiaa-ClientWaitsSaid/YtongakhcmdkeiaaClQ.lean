/- The law ClientWaits: plain laws, and the walk. Conditions: those that each theorem states. -/
import Derived.Test.YtongakhcmdkeiaaClK
namespace Go.Proofs.Ytongakhcmdkeiaa
open Go.RowKit

def anyOn (L : List Cl) : Bool := L.any fun x => !x.2.2
def anyAt (n : Int) (L : List Cl) : Bool := L.any fun x => !x.2.2 && x.2.1 == n
theorem slowF_is : ∀ (L : List Cl) (l : Int) (s : Bool), (slowF l s L).2 = (s || anyOn L) ∧ (s = true → (slowF l s L).1 ≤ l) ∧ (∀ x ∈ L, x.2.2 = false → (slowF l s L).1 ≤ x.2.1) ∧ ((slowF l s L).2 = true → (s = true ∧ (slowF l s L).1 = l) ∨ ∃ x ∈ L, x.2.2 = false ∧ x.2.1 = (slowF l s L).1) ∧ ((slowF l s L).2 = false → (slowF l s L).1 = l)
  | [], l, s => by simp [slowF, anyOn]
  | (i, p, f) :: r, l, s => by
    simp only [slowF]
    split
    · rename_i h
      obtain ⟨h1, h2, h3, h4, h5⟩ := slowF_is r p true
      have h2 := h2 rfl
      refine ⟨by rw [h1]; simp [anyOn, h.1], fun hs => ?_, fun x hx hf => ?_, fun hh => ?_, fun hh => ?_⟩
      · rcases h.2 with h | h
        · rw [hs] at h; cases h
        · omega
      · rcases List.mem_cons.1 hx with rfl | hx
        · exact h2
        · exact h3 x hx hf
      · rcases h4 hh with ⟨_, e⟩ | ⟨x, hx, hf, e⟩
        · exact .inr ⟨(i, p, f), List.mem_cons_self, h.1, e.symm⟩
        · exact .inr ⟨x, List.mem_cons_of_mem _ hx, hf, e⟩
      · rw [h1] at hh; simp at hh
    · rename_i h
      obtain ⟨h1, h2, h3, h4, h5⟩ := slowF_is r l s
      refine ⟨?_, h2, fun x hx hf => ?_, fun hh => ?_, h5⟩
      · rw [h1]
        cases f
        · cases s
          · exact absurd ⟨rfl, .inl rfl⟩ h
          · simp [anyOn]
        · simp [anyOn]
      · rcases List.mem_cons.1 hx with rfl | hx
        · have hf' : f = false := hf
          have hs : s = true := by
            cases s
            · exact absurd ⟨hf', .inl rfl⟩ h
            · rfl
          have hl := h2 hs
          have hp : ¬ p < l := fun e => h ⟨hf', .inr e⟩
          show (slowF l s r).1 ≤ p
          omega
        · exact h3 x hx hf
      · rcases h4 hh with ⟨e1, e⟩ | ⟨x, hx, hf, e⟩
        · exact .inl ⟨e1, e⟩
        · exact .inr ⟨x, List.mem_cons_of_mem _ hx, hf, e⟩
theorem slowM_on (L : List Cl) : (slowM L).2 = anyOn L := by have := (slowF_is L 0 false).1; unfold slowM; simpa using this
theorem slowM_le {L : List Cl} {x : Cl} (hx : x ∈ L) (hf : x.2.2 = false) : (slowM L).1 ≤ x.2.1 := (slowF_is L 0 false).2.2.1 x hx hf
theorem slowM_at {L : List Cl} (h : (slowM L).2 = true) : ∃ x ∈ L, x.2.2 = false ∧ x.2.1 = (slowM L).1 := by
  rcases (slowF_is L 0 false).2.2.2.1 h with ⟨e, _⟩ | h
  · cases e
  · exact h
theorem slowM_none {L : List Cl} (h : (slowM L).2 = false) : (slowM L).1 = 0 := (slowF_is L 0 false).2.2.2.2 h
theorem anyAt_yes {L : List Cl} (h : (slowM L).2 = true) : anyAt (slowM L).1 L = true := by
  obtain ⟨x, hx, hf, e⟩ := slowM_at h
  unfold anyAt
  rw [List.any_eq_true]
  exact ⟨x, hx, by simp [hf, e]⟩
theorem set_mem : ∀ {L : List Cl} {k : Nat} {y x : Cl}, x ∈ L.set k y → x ∈ L ∨ x = y
  | [], _, _, _, h => by simp at h
  | a :: r, 0, y, x, h => by
    simp only [List.set_cons_zero, List.mem_cons] at h ⊢
    rcases h with h | h
    · exact .inr h
    · exact .inl (.inr h)
  | a :: r, k + 1, y, x, h => by
    simp only [List.set_cons_succ, List.mem_cons] at h ⊢
    rcases h with h | h
    · exact .inl (.inl h)
    · rcases set_mem h with h | h
      · exact .inl (.inr h)
      · exact .inr h
theorem anyOn_set : ∀ {L : List Cl} {k : Nat} {i p q : Int} {f : Bool}, L[k]? = some (i, p, f) → anyOn (L.set k (i, q, f)) = anyOn L
  | [], k, _, _, _, _, h => by simp at h
  | (a, b, c) :: r, 0, i, p, q, f, h => by
    simp at h
    obtain ⟨rfl, rfl, rfl⟩ := h
    simp [anyOn]
  | (a, b, c) :: r, k + 1, i, p, q, f, h => by
    have := anyOn_set (L := r) (q := q) (by simpa using h)
    simp only [anyOn, List.set_cons_succ, List.any_cons] at this ⊢
    rw [this]
/-- A Commit never takes it back. -/
theorem slow_commit {L : List Cl} {k : Nat} {q : Int} {i p : Int} {f : Bool} (h : L[k]? = some (i, p, f)) : (slowM (L.set k (i, max p q, f))).2 = (slowM L).2 ∧ (slowM L).1 ≤ (slowM (L.set k (i, max p q, f))).1 := by
  have e : (slowM (L.set k (i, max p q, f))).2 = (slowM L).2 := by rw [slowM_on, slowM_on, anyOn_set h]
  refine ⟨e, ?_⟩
  cases hs : (slowM L).2
  · rw [slowM_none hs, slowM_none (e.trans hs)]
    exact Int.le_refl _
  · obtain ⟨x, hx, hf, hp⟩ := slowM_at (e.trans hs)
    rw [← hp]
    rcases set_mem hx with hx | rfl
    · exact slowM_le hx hf
    · have := slowM_le (List.mem_of_getElem? h) hf
      have h2 : (slowM L).1 ≤ p := this
      show (slowM L).1 ≤ max p q
      omega
/-- One that is Off isn't waited for. -/
theorem slow_turn {L : List Cl} {k : Nat} {i p : Int} {f : Bool} (_h : L[k]? = some (i, p, f)) (hs : (slowM (L.set k (i, p, true))).2 = true) : (slowM L).1 ≤ (slowM (L.set k (i, p, true))).1 := by
  obtain ⟨x, hx, hf, hp⟩ := slowM_at hs
  rw [← hp]
  rcases set_mem hx with hx | rfl
  · exact slowM_le hx hf
  · cases hf
theorem known_same {L : List Cl} {id p q : Int} (h1 : mayB id p = true) (h2 : mayB id q = true) : knownM L id p = knownM L id q := by simp [knownM, h1, h2]
theorem commit_is {L : List Cl} {id q : Int} (h1 : mayB id q = true) (h0 : mayB id 0 = true) (he : (knownM L id 0).2 = 0) : ∃ k i p f, L[k]? = some (i, p, f) ∧ commitM L id q = (L.set k (i, max p q, f), 0) ∧ turnM L id true = (L.set k (i, p, true), 0) := by
  have e := known_same (L := L) h1 h0
  obtain ⟨_, _, hi, hp⟩ := knownM_ok he
  obtain ⟨p, f, hx⟩ := inB_is hi
  refine ⟨placeN id L, id, p, f, hx, ?_, ?_⟩
  · unfold commitM; rw [e, if_pos he, hp]; unfold setP; rw [hx]
  · unfold turnM; rw [if_pos he, hp]; unfold setO; rw [hx]
theorem commit_not {L : List Cl} {id q : Int} (h1 : mayB id q = true) (h0 : mayB id 0 = true) (he : (knownM L id 0).2 ≠ 0) : commitM L id q = ([], (knownM L id 0).2) ∧ turnM L id true = ([], (knownM L id 0).2) := by
  have e := known_same (L := L) h1 h0
  exact ⟨by unfold commitM; rw [e, if_neg he], by unfold turnM; rw [if_neg he]⟩
theorem anyOn_snoc {L : List Cl} {k : Nat} {i p : Int} {f : Bool} (h : L[k]? = some (i, p, f)) : anyOn (L.take (k + 1)) = (anyOn (L.take k) || !f) := by
  rw [take_snoc h]; simp [anyOn]
theorem anyAt_snoc {L : List Cl} {n : Int} {k : Nat} {i p : Int} {f : Bool} (h : L[k]? = some (i, p, f)) : anyAt n (L.take (k + 1)) = (anyAt n (L.take k) || !f && p == n) := by
  rw [take_snoc h]; simp [anyAt]

set_option maxRecDepth 20000 in
set_option maxHeartbeats 4000000 in
theorem waits_law (A : Option Addr) (n c : Nat) (L0 : List Actc) (xid xpos : Int) (w : World) (h : ActsAt w A n c L0) :
    Calls Try.prog 7 #[.slice A n c, .int .i64 xid, .int .i64 xpos] w fun e w' => e = .returned (.bool true) ∧ Below w.heap.size w w' := by
  have hbig := h.big
  by_cases h40 : 40 < n
  · have d1 : decide (40 < n) = true := dec_yes h40
    go_enter Try.func7, Try.ntmps7
    go_wp2_with fail
    refine (known_any _).mono ?_
    rintro e w1 ⟨rfl, hb1⟩
    go_wp2_with fail
    go_ret
    exact ⟨rfl, hb1⟩
  have hn : n ≤ 40 := by omega
  clear h40
  have hm1 : bits .and .i64 xid 3 = xid % 4 := i64_mask 2 (by decide) xid 3 (by decide)
  have hm2 : bits .and .i64 xpos 1048575 = xpos % 1048576 := i64_mask 20 (by decide) xpos 1048575 (by decide)
  obtain ⟨y1, hy1⟩ : ∃ y : Int, xid % 4 = y := ⟨_, rfl⟩
  obtain ⟨q, hq⟩ : ∃ y : Int, xpos % 1048576 = y := ⟨_, rfl⟩
  have hy9 : 0 ≤ y1 ∧ y1 < 4 := by omega
  have hq9 : 0 ≤ q ∧ q < 1048576 := by omega
  rw [hy1] at hm1
  rw [hq] at hm2
  clear hy1 hq
  obtain ⟨id, hid⟩ : ∃ id : Int, 1 + y1 = id := ⟨_, rfl⟩
  have wid : IntKind.i64.wrap (1 + y1) = id := by rw [← hid]; exact IntWalk.i64_in _ (by omega)
  have hmq : mayB id q = true := mayB_mk (by omega)
  have hm0 : mayB id 0 = true := mayB_mk (by omega)
  have HMQ := Lib.hid hmq
  have HM0 := Lib.hid hm0
  clear hmq hm0 hid hy9 hq9
  have HM1 := Lib.hid hm1
  have HM2 := Lib.hid hm2
  have HW := Lib.hid wid
  clear hm1 hm2 wid
  go_enter Try.func7, Try.ntmps7
  go_wp2_with fail
  go_loopg [7, 8, 9, 10, 11] n (fun gk a i _ _ _ wr => ∃ (k m ca : Nat) (A1 : Option Addr) (L : List Cl), k + gk = n ∧ i = .int .i64 (k : Nat) ∧ a = .slice A1 m ca ∧ ClAt wr A1 m ca L ∧ Below w.heap.size w wr)
  case atStart => exact ⟨0, 0, 0, none, [], by omega, rfl, rfl, Reads.nil_ _ _ _, Below.refl _ _⟩
  case round =>
    obtain ⟨k, m, ca, A1, L, hk, rfl, rfl, h1, hb⟩ := hrel
    have HK := Lib.hid hk
    have hkn : k ≤ n := by omega
    clear hk
    by_cases hlt : k < n
    · obtain ⟨b, o, ax, ix, px, fx, rfl, hbb, hx, x0, x1, x2, x3⟩ := acs_at (h.below hb) hlt
      clear hx
      have hm3 : bits .and .i64 ix 3 = ix % 4 := i64_mask 2 (by decide) ix 3 (by decide)
      have hm16 : bits .and .i64 px 65535 = px % 65536 := i64_mask 16 (by decide) px 65535 (by decide)
      obtain ⟨y, hy⟩ : ∃ y : Int, ix % 4 = y := ⟨_, rfl⟩
      obtain ⟨z, hz⟩ : ∃ z : Int, px % 65536 = z := ⟨_, rfl⟩
      have hy2 : 0 ≤ y ∧ y < 4 := by omega
      rw [hy] at hm3
      rw [hz] at hm16
      clear hy hz
      obtain ⟨id1, hid⟩ : ∃ id1 : Int, 1 + y = id1 := ⟨_, rfl⟩
      have wid : IntKind.i64.wrap (1 + y) = id1 := by rw [← hid]; exact IntWalk.i64_in _ (by omega)
      have b0 : (0 : Int) ≤ (k : Int) := by omega
      have bk : (k : Int) < (n : Int) := by omega
      clear hid hy2
      have H1 := Lib.hid h1
      clear h1
      go_wp2_with fail
      have hbx : Below wr.heap.size wr (wr.alloc (.cells #[.int .i64 ax, .int .i64 id1, .int .i64 z, .bool fx] 29)) := (Below.refl _ _).alloc (Nat.le_refl _) _
      refine (one_any A1 m ca L ax id1 z fx _ (H1.out.next hbx)).mono ?_
      rintro e w5 ⟨A5, n5, c5, rfl, hown5, hb5⟩
      generalize oneM L ax id1 z fx = R at hown5 ⊢
      have hb05 := below_next (v := wr) hbx hb5
      have hcl5 : ClAt w5 A5 n5 c5 R.1 := Reads.of_own hown5
      obtain ⟨ee, hee⟩ : ∃ ee, ee = R.2 := ⟨_, rfl⟩
      rw [← hee]
      clear hown5 hb5 hee
      by_cases hok : ee = 0
      · have e1 : (ee == 0) = true := by simp [hok]
        clear hok
        go_wp2_with fail
        go_roundg (n - (k + 1))
        case measure => have := HK.out; omega
        case rel => exact ⟨k + 1, n5, c5, A5, R.1, by omega, by go_num, rfl, hcl5, hb.trans (hb05.mono hb.size)⟩
      · have e1 : (ee == 0) = false := by simp [hok]
        clear hok
        go_wp2_with fail
        go_roundg (n - (k + 1))
        case measure => have := HK.out; omega
        case rel => exact ⟨k + 1, m, ca, A1, L, by omega, by go_num, rfl, H1.out.next hb05, hb.trans (hb05.mono hb.size)⟩
    · obtain rfl : k = n := by omega
      clear h
      go_wp2_with fail
      refine (slow_any A1 m ca L _ h1).mono ?_
      rintro e w2 ⟨rfl, hb2⟩
      have g1 := h1.next hb2
      have hbw := hb.trans (hb2.mono hb.size)
      have hmb := g1.big
      have HLM := Lib.hid (cl_length g1)
      obtain ⟨n0, hn0⟩ : ∃ n0, n0 = (slowM L).1 := ⟨_, rfl⟩
      obtain ⟨ok, hok⟩ : ∃ ok, ok = (slowM L).2 := ⟨_, rfl⟩
      rw [← hn0, ← hok]
      have HN0 := Lib.hid hn0
      have HOK := Lib.hid hok
      clear hn0 hok h1 hb hb2
      go_wp2_with fail
      go_loopg [14, 15, 16] m (fun gk at_ so i wr => ∃ k : Nat, k + gk = m ∧ i = .int .i64 (k : Nat) ∧ at_ = .bool (anyAt n0 (L.take k)) ∧ so = .bool (anyOn (L.take k)) ∧ w2 = wr)
      case atStart => exact ⟨0, by omega, rfl, rfl, rfl, rfl⟩
      case round =>
        obtain ⟨j, hj, rfl, rfl, rfl, rfl⟩ := hrel
        have HJ := Lib.hid hj
        have hjm : j ≤ m := by omega
        clear hj
        by_cases hlt : j < m
        · obtain ⟨b, o, ci, cp, cf, rfl, hbb, hx, x0, x1, x2⟩ := cl_at g1 hlt
          have HS := Lib.hid (anyOn_snoc hx)
          have HT := Lib.hid (anyAt_snoc (n := n0) hx)
          have hle : cf = false → n0 ≤ cp := fun e => by rw [HN0.out]; exact slowM_le (List.mem_of_getElem? hx) e
          have b0 : (0 : Int) ≤ (j : Int) := by omega
          have bk : (j : Int) < (m : Int) := by omega
          generalize anyOn (L.take j) = s at HS
          generalize anyAt n0 (L.take j) = t at HT
          clear hx
          cases cf
          · have hnl : ¬ cp < n0 := by have := hle rfl; omega
            clear hle
            by_cases hq : cp = n0
            · have hq1 : (cp == n0) = true := by simp [hq]
              have HQ := Lib.hid hq1
              cases s <;> cases t
              all_goals
                go_wp2_with fail
                go_roundg (m - (j + 1))
                case measure => have := HJ.out; omega
                case rel => exact ⟨j + 1, by omega, by go_num, by rw [HT.out, HQ.out]; rfl, by rw [HS.out]; rfl, rfl⟩
            · have hq1 : (cp == n0) = false := by simp [hq]
              have HQ := Lib.hid hq1
              cases s <;> cases t
              all_goals
                go_wp2_with fail
                go_roundg (m - (j + 1))
                case measure => have := HJ.out; omega
                case rel => exact ⟨j + 1, by omega, by go_num, by rw [HT.out, HQ.out]; rfl, by rw [HS.out]; rfl, rfl⟩
          · clear hle
            cases s <;> cases t
            all_goals
              go_wp2_with fail
              go_roundg (m - (j + 1))
              case measure => have := HJ.out; omega
              case rel => exact ⟨j + 1, by omega, by go_num, by rw [HT.out]; rfl, by rw [HS.out]; rfl, rfl⟩
        · obtain rfl : j = m := by omega
          have hta : L.take j = L := List.take_of_length_le (by rw [HLM.out]; exact Nat.le_refl _)
          have hon : anyOn (L.take j) = ok := by rw [hta, HOK.out, slowM_on]
          have hat : ok = true → anyAt n0 (L.take j) = true := fun e => by rw [hta, HN0.out]; exact anyAt_yes (by rw [← HOK.out]; exact e)
          rw [hon]
          have hm1 := HM1.out
          have hm2 := HM2.out
          have wid := HW.out
          obtain ⟨ee, hee⟩ : ∃ ee, ee = (knownM L id 0).2 := ⟨_, rfl⟩
          obtain ⟨R1, R2, hR1, hR2, hfit⟩ : ∃ R1 R2 : List Cl, commitM L id q = (R1, ee) ∧ turnM L id true = (R2, ee) ∧ (ee = 0 → (slowM R1).2 = ok ∧ n0 ≤ (slowM R1).1 ∧ ((slowM R2).2 = true → n0 ≤ (slowM R2).1)) := by
            by_cases he : (knownM L id 0).2 = 0
            · obtain ⟨k', i', p', f', hx, h1, h2⟩ := commit_is HMQ.out HM0.out he
              refine ⟨_, _, by rw [h1, hee, he], by rw [h2, hee, he], fun _ => ?_⟩
              rw [HOK.out, HN0.out]
              exact ⟨(slow_commit hx).1, (slow_commit hx).2, slow_turn hx⟩
            · obtain ⟨h1, h2⟩ := commit_not (q := q) HMQ.out HM0.out he
              exact ⟨_, _, by rw [h1, hee], by rw [h2, hee], fun e => absurd (hee.symm.trans e) he⟩
          have HR1 := Lib.hid hR1
          have HR2 := Lib.hid hR2
          have HF := Lib.hid hfit
          have G1 := Lib.hid g1
          clear hta hon hR1 hR2 hfit hee HOK HN0 g1
          generalize anyAt n0 (L.take j) = t at hat ⊢
          cases ok
          · clear hat
            go_wp2_with fail
            refine (commit_any A1 j ca L id q _ G1.out).mono ?_
            rintro e w3 ⟨A3, n3, c3, rfl, hown3, hb3⟩
            rw [HR1.out] at hown3 ⊢
            have hcl3 : ClAt w3 A3 n3 c3 R1 := Reads.of_own hown3
            clear hown3
            go_wp2_with fail
            refine (slow_any A3 n3 c3 R1 _ hcl3).mono ?_
            rintro e w4 ⟨rfl, hb4⟩
            have hb24 := below_next (v := w2) hb3 hb4
            clear hcl3 hb3 hb4
            by_cases he : ee = 0
            · obtain ⟨q1, q2, q3⟩ := HF.out he
              have e1 : (ee == 0) = true := by simp [he]
              have e2 : (ee != 0) = false := by simp [he]
              rw [q1]
              generalize (slowM R1).1 = m1 at q2 ⊢
              have dm : decide (m1 < n0) = false := dec_no (by omega)
              have Q3 := Lib.hid q3
              clear he q1 q2 q3
              go_wp2_with fail
              refine (turn_any A1 j ca L id true _ (G1.out.next hb24)).mono ?_
              rintro e w5 ⟨A5, n5, c5, rfl, hown5, hb5⟩
              rw [HR2.out] at hown5 ⊢
              have hcl5 : ClAt w5 A5 n5 c5 R2 := Reads.of_own hown5
              clear hown5
              go_wp2_with fail
              refine (slow_any A5 n5 c5 R2 _ hcl5).mono ?_
              rintro e w6 ⟨rfl, hb6⟩
              have hb26 := below_next (v := w2) (below_next (v := w2) hb24 hb5) hb6
              clear hcl5 hb5 hb6
              generalize (slowM R2).2 = so at Q3 ⊢
              generalize (slowM R2).1 = mo at Q3 ⊢
              cases so
              · go_wp2_with fail
                refine (known_any _).mono ?_
                rintro e w7 ⟨rfl, hb7⟩
                go_wp2_with fail
                go_ret
                exact ⟨rfl, hbw.trans ((hb26.trans (hb7.mono hb26.size)).mono hbw.size)⟩
              · have dq : decide (n0 ≤ mo) = true := dec_yes (Q3.out rfl)
                go_wp2_with fail
                refine (known_any _).mono ?_
                rintro e w7 ⟨rfl, hb7⟩
                go_wp2_with fail
                go_ret
                exact ⟨rfl, hbw.trans ((hb26.trans (hb7.mono hb26.size)).mono hbw.size)⟩
            · have e1 : (ee == 0) = false := by simp [he]
              have e2 : (ee != 0) = true := by simp [he]
              generalize (slowM R1).1 = m1
              generalize (slowM R1).2 = is1
              clear he
              go_wp2_with fail
              refine (turn_any A1 j ca L id true _ (G1.out.next hb24)).mono ?_
              rintro e w5 ⟨A5, n5, c5, rfl, hown5, hb5⟩
              rw [HR2.out] at hown5 ⊢
              have hcl5 : ClAt w5 A5 n5 c5 R2 := Reads.of_own hown5
              clear hown5
              go_wp2_with fail
              refine (slow_any A5 n5 c5 R2 _ hcl5).mono ?_
              rintro e w6 ⟨rfl, hb6⟩
              have hb26 := below_next (v := w2) (below_next (v := w2) hb24 hb5) hb6
              clear hcl5 hb5 hb6
              generalize (slowM R2).2 = so
              generalize (slowM R2).1 = mo
              go_wp2_with fail
              refine (known_any _).mono ?_
              rintro e w7 ⟨rfl, hb7⟩
              go_wp2_with fail
              go_ret
              exact ⟨rfl, hbw.trans ((hb26.trans (hb7.mono hb26.size)).mono hbw.size)⟩
          · obtain rfl : t = true := hat rfl
            clear hat
            go_wp2_with fail
            refine (commit_any A1 j ca L id q _ G1.out).mono ?_
            rintro e w3 ⟨A3, n3, c3, rfl, hown3, hb3⟩
            rw [HR1.out] at hown3 ⊢
            have hcl3 : ClAt w3 A3 n3 c3 R1 := Reads.of_own hown3
            clear hown3
            go_wp2_with fail
            refine (slow_any A3 n3 c3 R1 _ hcl3).mono ?_
            rintro e w4 ⟨rfl, hb4⟩
            have hb24 := below_next (v := w2) hb3 hb4
            clear hcl3 hb3 hb4
            by_cases he : ee = 0
            · obtain ⟨q1, q2, q3⟩ := HF.out he
              have e1 : (ee == 0) = true := by simp [he]
              have e2 : (ee != 0) = false := by simp [he]
              rw [q1]
              generalize (slowM R1).1 = m1 at q2 ⊢
              have dm : decide (m1 < n0) = false := dec_no (by omega)
              have Q3 := Lib.hid q3
              clear he q1 q2 q3
              go_wp2_with fail
              refine (turn_any A1 j ca L id true _ (G1.out.next hb24)).mono ?_
              rintro e w5 ⟨A5, n5, c5, rfl, hown5, hb5⟩
              rw [HR2.out] at hown5 ⊢
              have hcl5 : ClAt w5 A5 n5 c5 R2 := Reads.of_own hown5
              clear hown5
              go_wp2_with fail
              refine (slow_any A5 n5 c5 R2 _ hcl5).mono ?_
              rintro e w6 ⟨rfl, hb6⟩
              have hb26 := below_next (v := w2) (below_next (v := w2) hb24 hb5) hb6
              clear hcl5 hb5 hb6
              generalize (slowM R2).2 = so at Q3 ⊢
              generalize (slowM R2).1 = mo at Q3 ⊢
              cases so
              · go_wp2_with fail
                refine (known_any _).mono ?_
                rintro e w7 ⟨rfl, hb7⟩
                go_wp2_with fail
                go_ret
                exact ⟨rfl, hbw.trans ((hb26.trans (hb7.mono hb26.size)).mono hbw.size)⟩
              · have dq : decide (n0 ≤ mo) = true := dec_yes (Q3.out rfl)
                go_wp2_with fail
                refine (known_any _).mono ?_
                rintro e w7 ⟨rfl, hb7⟩
                go_wp2_with fail
                go_ret
                exact ⟨rfl, hbw.trans ((hb26.trans (hb7.mono hb26.size)).mono hbw.size)⟩
            · have e1 : (ee == 0) = false := by simp [he]
              have e2 : (ee != 0) = true := by simp [he]
              generalize (slowM R1).1 = m1
              generalize (slowM R1).2 = is1
              clear he
              go_wp2_with fail
              refine (turn_any A1 j ca L id true _ (G1.out.next hb24)).mono ?_
              rintro e w5 ⟨A5, n5, c5, rfl, hown5, hb5⟩
              rw [HR2.out] at hown5 ⊢
              have hcl5 : ClAt w5 A5 n5 c5 R2 := Reads.of_own hown5
              clear hown5
              go_wp2_with fail
              refine (slow_any A5 n5 c5 R2 _ hcl5).mono ?_
              rintro e w6 ⟨rfl, hb6⟩
              have hb26 := below_next (v := w2) (below_next (v := w2) hb24 hb5) hb6
              clear hcl5 hb5 hb6
              generalize (slowM R2).2 = so
              generalize (slowM R2).1 = mo
              go_wp2_with fail
              refine (known_any _).mono ?_
              rintro e w7 ⟨rfl, hb7⟩
              go_wp2_with fail
              go_ret
              exact ⟨rfl, hbw.trans ((hb26.trans (hb7.mono hb26.size)).mono hbw.size)⟩
end Go.Proofs.Ytongakhcmdkeiaa
