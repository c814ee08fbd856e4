/- Contracts of objmap.Put, Get, Turn and of bytes.Equal: what each computes, and that nothing that was there is written. Conditions: those that each theorem states. -/
import Derived.Test.YtmeodnpnbgaehaaMapB
import Derived.Laws.BytesArg
import Derived.Lib.Strings
namespace Go.Proofs.Ytmeodnpnbgaehaa
open Go.RowKit

theorem put_yes (A : Option Addr) (n c : Nat) (l : List Int) (w : World) (h : Reads w w.heap.size 1 A n c (cells .i64 l)) (hr : rightM l = true) :
    Calls Try.prog 9 #[.slice A n c] w fun e w' => ∃ A' c', e = .returned (.tuple #[.slice A' ((n + 3) / 4) c', .int .i64 0]) ∧ w'.ownsRow w.heap.size 5 1 (.slice A' ((n + 3) / 4) c') ((n + 3) / 4) (cells .u8 (accM l n)) ∧ Below w.heap.size w w' := by
  obtain ⟨i0, hi0, hz0, hz1, hz2⟩ := info_parts info5
  have hl := h.length
  have h512 : n ≤ 512 := by
    have := hr
    simp [rightM, hl] at this
    exact this.2
  have Hl := Lib.hid hl
  have Hr := Lib.hid hr
  clear hl hr
  go_enter Try.func9, Try.ntmps9
  go_wp2_with fail
  refine (right_any _ _ _ _ _ h).mono ?_
  rintro e w' ⟨rfl, rfl⟩
  rw [Hr.out]
  go_wp2_with (at_make; refine wpList_make_one _ rfl (.tmp 14) (.tmp 14) 25 rfl w.heap.size 5 i0 _ 1 Try.underlying25 hi0 hz0 hz1 hz2 rfl .i64 .i64 _ _ ((n + 3) / 4) rfl rfl (by omega) (by omega) (by omega) (by simp only [maxLen]; omega) (Nat.le_refl _) ?_; intro A1 c1 w1 hown1 hg1 hb1 _)
  go_loopw [5, 6, 18] (fun _ _ i wr => ∃ k, k ≤ n ∧ i = .int .i64 (k : Nat) ∧ wr.ownsRow w.heap.size 5 1 (.slice A1 ((n + 3) / 4) c1) ((n + 3) / 4) (cells .u8 (accM l k)) ∧ Below w.heap.size w wr) (fun _ _ i _ => n - (intOf i).toNat)
  case atStart => exact ⟨0, Nat.zero_le _, rfl, by rw [← accM_zero, Hl.out]; exact hown1, hb1⟩
  case round =>
    obtain ⟨k, hk, rfl, hown, hb⟩ := hrel
    clear hown1 hb1 hg1
    by_cases hlt : k < n
    · obtain ⟨b, o, x, rfl, hbb, hx, hc⟩ := (h.below hb).at_ hlt
      have hl := Hl.out
      obtain ⟨y, hy⟩ : ∃ y, (accM l k)[k / 4]? = some y := ⟨_, accM_at hl hlt⟩
      obtain ⟨g, rfl, hbg, hgl, hc', hf⟩ := own_at hown (cells_get hy)
      have HS := Lib.hid (accM_step Hr.out hx hy)
      clear hx hy hl
      have hq : k / 4 < (n + 3) / 4 := by omega
      go_wp2
      go_region
      go_wp2
      go_roundw
      case rel =>
        refine ⟨k + 1, by omega, by go_num, ?_, (hb.setCell (p := ⟨g, k / 4, none⟩) hbg _).drew⟩
        rw [← HS.out, ← cells_set]
        exact (own_set hown (k / 4) _).1
      case measure => simp [intOf]; omega
    · obtain rfl : k = n := by omega
      go_wp2
      go_ret2
      exact ⟨A1, c1, rfl, hown, hb⟩

theorem put_no (A : Option Addr) (n c : Nat) (l : List Int) (w : World) (h : Reads w w.heap.size 1 A n c (cells .i64 l)) (hr : rightM l = false) :
    Calls Try.prog 9 #[.slice A n c] w fun e w' => e = .returned (.tuple #[.slice none 0 0, .int .i64 1]) ∧ w = w' := by
  have Hr := Lib.hid hr
  clear hr
  go_enter Try.func9, Try.ntmps9
  go_wp2_with fail
  refine (right_any _ _ _ _ _ h).mono ?_
  rintro e w' ⟨rfl, rfl⟩
  rw [Hr.out]
  go_wp2
  go_ret2
  exact ⟨rfl, rfl⟩

theorem conv_reads {P : Program} {w : World} {B : Nat} {A : Option Addr} {n c : Nat} {l : List Int} (src e dst : TypeId) (hs : P.underlying src = some (.slice e)) (he : P.underlying e = some (.int .u8)) (hd : P.underlying dst = some .string)
    (h : Reads w B 1 A n c (cells .u8 l)) : (convert src dst (.slice A n c)).run P w = .ok (.string (strOfNums l)) w := by
  rcases A with _ | ad
  · have : l = [] := List.eq_nil_of_length_eq_zero (by have := h.length; have := h.le; have := h.2.2.2.1 rfl; omega)
    subst this
    exact run_convert_bytes_nil w src e hs he n c dst hd
  · rcases Nat.eq_zero_or_pos n with h0 | h0
    · subst h0
      have : l = [] := List.eq_nil_of_length_eq_zero h.length
      subst this
      have hc := run_convert_bytes_back w src dst e ad c [] hs he hd (fun j hj => absurd hj (by simp))
      simpa [strOfNums] using hc
    · obtain ⟨b, o, hA, hb, hc⟩ := h.2.2.2.2 h0
      injection hA with hA
      subst hA
      refine run_convert_bytes_arg w src e hs he b o n c l h.length (fun i hi => ?_) dst hd
      have hl : i < l.length := by rw [h.length]; exact hi
      have := hc i _ (cells_get (List.getElem?_eq_getElem hl))
      simpa [List.getD, List.getElem?_eq_getElem hl] using this

def IsBytes (l : List Int) : Prop := ∀ x ∈ l, 0 ≤ x ∧ x < 256
theorem str_list (l : List Int) : (strOfNums l).toList = l.map fun n => UInt8.ofNat n.toNat := by
  rw [Lib.toList_data]
  rfl
theorem str_inj {a b : List Int} (ha : IsBytes a) (hb : IsBytes b) (h : (strOfNums a).toList = (strOfNums b).toList) : a = b := by
  rw [str_list, str_list] at h
  have hl : a.length = b.length := by simpa using congrArg List.length h
  apply List.ext_getElem hl
  intro i h1 h2
  have e : (a.map fun n => UInt8.ofNat n.toNat)[i]? = (b.map fun n => UInt8.ofNat n.toNat)[i]? := by rw [h]
  simp only [List.getElem?_map, List.getElem?_eq_getElem h1, List.getElem?_eq_getElem h2, Option.map_some, Option.some.injEq] at e
  have e' := congrArg UInt8.toNat e
  have p := ha _ (List.getElem_mem h1)
  have q := hb _ (List.getElem_mem h2)
  simp only [UInt8.toNat_ofNat'] at e'
  omega
theorem equal_any (A B : Option Addr) (n c m d : Nat) (l r : List Int) (w : World) (hA : Reads w w.heap.size 1 A n c (cells .u8 l)) (hB : Reads w w.heap.size 1 B m d (cells .u8 r)) :
    Calls Try.prog 18 #[.slice A n c, .slice B m d] w fun e w' => e = .returned (.bool ((strOfNums l).toList == (strOfNums r).toList)) ∧ w = w' := by
  have h1 := conv_reads 25 5 9 Try.underlying25 Try.underlying5 Try.underlying9 hA
  have h2 := conv_reads 25 5 9 Try.underlying25 Try.underlying5 Try.underlying9 hB
  go_enter Try.func18, Try.ntmps18
  go_wp2
  go_ret
  exact ⟨rfl, rfl⟩

theorem get_range (A : Option Addr) (n c : Nat) (i : Int) (w : World) (hi : i < 0 ∨ 512 < i) :
    Calls Try.prog 10 #[.slice A n c, .int .i64 i] w fun e w' => e = .returned (.tuple #[.slice none 0 0, .int .i64 1]) ∧ w = w' := by
  rcases hi with hi | hi
  · go_enter Try.func10, Try.ntmps10
    go_wp2
    go_ret2
    exact ⟨rfl, rfl⟩
  · have h0 : ¬ i < 0 := by omega
    go_enter Try.func10, Try.ntmps10
    go_wp2
    go_ret2
    exact ⟨rfl, rfl⟩

theorem get_len (A : Option Addr) (n c m : Nat) (w : World) (hm : m ≤ 512) (hne : n ≠ (m + 3) / 4) :
    Calls Try.prog 10 #[.slice A n c, .int .i64 (m : Nat)] w fun e w' => e = .returned (.tuple #[.slice none 0 0, .int .i64 2]) ∧ w = w' := by
  have hb : ((n : Int) != ((m : Int) + 4 - 1) / 4) = true := by rw [bne_iff_ne]; omega
  go_enter Try.func10, Try.ntmps10
  go_wp2
  go_ret2
  exact ⟨rfl, rfl⟩

def decOne (x : Int) (k : Nat) : Int := wrap64 (bits .and .u8 (x / 2 ^ (k % 4 * 2)) 3)
def dec (bs : List Int) (m : Nat) : List Int := (List.range m).map fun k => decOne (bs.getD (k / 4) 0) k
theorem dec_length (bs : List Int) (m : Nat) : (dec bs m).length = m := by simp [dec]
theorem dec_step {bs : List Int} {m k : Nat} {x : Int} (hk : k < m) (hx : bs[k / 4]? = some x) :
    (dec bs k ++ List.replicate (m - k) 0).set k (decOne x k) = dec bs (k + 1) ++ List.replicate (m - (k + 1)) 0 := by
  rw [List.set_append_right _ _ (by rw [dec_length]; exact Nat.le_refl _), dec_length, Nat.sub_self]
  have e : m - k = (m - (k + 1)) + 1 := by omega
  have hd : bs.getD (k / 4) 0 = x := by rw [List.getD_eq_getElem?_getD, hx]; rfl
  rw [e, List.replicate_succ, List.set_cons_zero]
  simp only [dec, List.range_succ, List.map_append, List.map_cons, List.map_nil, List.append_assoc, hd]
  rfl
def getOk (bs : List Int) (m : Nat) : Bool := rightM (dec bs m) && ((strOfNums (accM (dec bs m) m)).toList == (strOfNums bs).toList)
def getR (bs : List Int) (m : Nat) : List Int × Int := if getOk bs m then (dec bs m, 0) else ([], 2)
theorem getR_no1 {bs : List Int} {m : Nat} (h : rightM (dec bs m) = false) : getR bs m = ([], 2) := by simp [getR, getOk, h]
theorem getR_no2 {bs : List Int} {m : Nat} (h : ((strOfNums (accM (dec bs m) m)).toList == (strOfNums bs).toList) = false) : getR bs m = ([], 2) := by simp only [getR, getOk, h, Bool.and_false]; rfl
theorem getR_yes {bs : List Int} {m : Nat} (h : rightM (dec bs m) = true) (h' : ((strOfNums (accM (dec bs m) m)).toList == (strOfNums bs).toList) = true) : getR bs m = (dec bs m, 0) := by simp only [getR, getOk, h, h']; rfl

theorem get_fit (A : Option Addr) (n c m : Nat) (bs : List Int) (w : World) (h : Reads w w.heap.size 1 A n c (cells .u8 bs)) (hm : m ≤ 512) (hne : n = (m + 3) / 4) :
    Calls Try.prog 10 #[.slice A n c, .int .i64 (m : Nat)] w fun e w' => ∃ A' q c' L er, e = .returned (.tuple #[.slice A' q c', .int .i64 er]) ∧ w'.ownsRow w.heap.size 3 1 (.slice A' q c') q (cells .i64 L) ∧ Below w.heap.size w w' ∧ getR bs m = (L, er) := by
  have hb : ((n : Int) != ((m : Int) + 4 - 1) / 4) = false := by rw [bne_eq_false_iff_eq]; omega
  obtain ⟨i0, hi0, hz0, hz1, hz2⟩ := info_parts info3
  have HN := Lib.hid hne
  clear hne
  have hbig := h.big
  go_enter Try.func10, Try.ntmps10
  go_wp2_with (at_make; refine wpList_make_one _ rfl (.tmp 23) (.tmp 23) 22 rfl w.heap.size 3 i0 _ 8 Try.underlying22 hi0 hz0 hz1 hz2 rfl .i64 .i64 _ _ m rfl rfl rfl rfl (by omega) (by simp only [maxLen]; omega) (Nat.le_refl _) ?_; intro A1 c1 w1 hown1 hg1 hb1 _)
  go_loopw [7, 27] (fun _ i wr => ∃ k, k ≤ m ∧ i = .int .i64 (k : Nat) ∧ wr.ownsRow w.heap.size 3 1 (.slice A1 m c1) m (cells .i64 (dec bs k ++ List.replicate (m - k) 0)) ∧ Below w.heap.size w wr) (fun _ i _ => m - (intOf i).toNat)
  case atStart => exact ⟨0, Nat.zero_le _, rfl, by rw [cells_replicate] at hown1; exact hown1, hb1⟩
  case round =>
    obtain ⟨k, hk, rfl, hown, hb'⟩ := hrel
    clear hown1 hb1 hg1
    by_cases hlt : k < m
    · have hq : k / 4 < n := by rw [HN.out]; omega
      obtain ⟨b, o, x, rfl, hbb, hx, hc⟩ := (h.below hb').at_ hq
      have hll := own_length hown
      obtain ⟨y, hy⟩ : ∃ y, (dec bs k ++ List.replicate (m - k) 0)[k]? = some y := ⟨_, List.getElem?_eq_getElem (by rw [hll]; exact hlt)⟩
      obtain ⟨g, rfl, hbg, hgl, hc', hf⟩ := own_at hown (cells_get hy)
      have HS := Lib.hid (dec_step hlt hx)
      clear hx hy hll
      go_wp2
      go_roundw
      case rel =>
        refine ⟨k + 1, by omega, by go_num, ?_, hb'.setCell (p := ⟨g, k, none⟩) hbg _⟩
        rw [← HS.out, ← cells_set]
        exact (own_set hown k _).1
      case measure => simp [intOf]; omega
    · obtain rfl : k = m := by omega
      rw [Nat.sub_self, List.replicate_zero, List.append_nil] at hown
      have hR := Reads.of_own hown
      cases hr : rightM (dec bs k)
      · have HG := Lib.hid (getR_no1 hr)
        go_wp2_with fail
        refine (put_no _ _ _ _ _ hR hr).mono ?_
        rintro e w' ⟨rfl, rfl⟩
        clear hr
        go_wp2
        go_ret2
        exact ⟨none, 0, 0, [], 2, rfl, World.ownsRow_nil _ _ _ _, hb', HG.out⟩
      · go_wp2_with fail
        refine (put_yes _ _ _ _ _ hR hr).mono ?_
        rintro e w2 ⟨A2, c2, rfl, hown2, hb2⟩
        have Hr := Lib.hid hr
        clear hr
        go_wp2_with fail
        refine (equal_any _ _ _ _ _ _ _ _ _ (Reads.of_own hown2) ((((h.below hb').more hb'.size).below hb2).here (by decide))).mono ?_
        rintro e w3 ⟨rfl, rfl⟩
        cases he : ((strOfNums (accM (dec bs k) k)).toList == (strOfNums bs).toList)
        · have HG := Lib.hid (getR_no2 he)
          clear he
          go_wp2
          go_ret2
          exact ⟨none, 0, 0, [], 2, rfl, World.ownsRow_nil _ _ _ _, hb'.trans (hb2.mono hb'.size), HG.out⟩
        · have HG := Lib.hid (getR_yes Hr.out he)
          clear he
          go_wp2
          go_ret2
          exact ⟨A1, k, c1, dec bs k, 0, rfl, own_below hown hb2 (Nat.le_refl _), hb'.trans (hb2.mono hb'.size), HG.out⟩

def turnOk (i to : Int) : Bool := decide (0 ≤ i) && decide (i < 512) && st3 to
def turnM (l : List Int) (i to : Int) : List Int := if turnOk i to then (l ++ List.replicate (i.toNat + 1 - l.length) 0).set i.toNat to else l

theorem turn_no (A : Option Addr) (n c : Nat) (i to : Int) (l : List Int) (w : World) (h : Reads w w.heap.size 1 A n c (cells .i64 l)) (hn : n * 8 ≤ 140737488355328) (ht : turnOk i to = false) :
    Calls Try.prog 17 #[.slice A n c, .int .i64 i, .int .i64 to] w fun e w' => ∃ A' c', e = .returned (.slice A' n c') ∧ w'.ownsRow w.heap.size 3 1 (.slice A' n c') n (cells .i64 l) ∧ Below w.heap.size w w' := by
  have HT := Lib.hid ht
  clear ht
  go_enter Try.func17, Try.ntmps17
  go_wp2_with fail
  refine (clone_any _ _ _ _ _ h (cells_oneCell _ _) hn).mono ?_
  rintro e w1 ⟨A1, c1, rfl, hown1, hb1⟩
  by_cases h0 : i < 0
  · go_wp2_with fail
    go_ret
    exact ⟨A1, c1, rfl, hown1, hb1⟩
  · by_cases h5 : 512 ≤ i
    · go_wp2_with fail
      go_ret
      exact ⟨A1, c1, rfl, hown1, hb1⟩
    · go_wp2_with fail
      refine (state_any _ _).mono ?_
      rintro e w' ⟨rfl, rfl⟩
      have hs : st3 to = false := by
        have := HT.out
        simp only [turnOk, Bool.and_eq_false_iff, decide_eq_false_iff_not] at this
        rcases this with (h | h) | h
        · omega
        · omega
        · exact h
      go_wp2_with fail
      go_ret
      exact ⟨A1, c1, rfl, hown1, hb1⟩

def lenOf : Value → Nat | .slice _ n _ => n | _ => 0
theorem turn_yes (A : Option Addr) (n c : Nat) (i to : Int) (k : Nat) (l : List Int) (w : World) (h : Reads w w.heap.size 1 A n c (cells .i64 l)) (hn : n ≤ 1000) (h0 : 0 ≤ i) (h5 : i < 512) (hik : i = k) (ht : st3 to = true) :
    Calls Try.prog 17 #[.slice A n c, .int .i64 i, .int .i64 to] w fun e w' => ∃ A' c', e = .returned (.slice A' (max n (k + 1)) c') ∧ w'.ownsRow w.heap.size 3 1 (.slice A' (max n (k + 1)) c') (max n (k + 1)) (cells .i64 (turnM l i to)) ∧ Below w.heap.size w w' := by
  obtain ⟨i0, hi0, hz0, hz1, hz2⟩ := info_parts info3
  have hl := Lib.hid h.length
  have hT : turnM l i to = (l ++ List.replicate (k + 1 - n) 0).set k to := by
    rw [turnM, if_pos (by simp [turnOk, ht, h0, h5]), hl.out, hik, Int.toNat_natCast]
  have HT := Lib.hid hT
  clear hT
  have HK := Lib.hid hik
  clear hik
  go_enter Try.func17, Try.ntmps17
  go_wp2_with fail
  refine (clone_any _ _ _ _ _ h (cells_oneCell _ _) (by omega)).mono ?_
  rintro e w1 ⟨A1, c1, rfl, hown1, hb1⟩
  go_wp2_with fail
  refine (state_any _ _).mono ?_
  rintro e w' ⟨rfl, rfl⟩
  rw [ht]
  have HS := Lib.hid ht
  clear ht
  go_wp2_with fail
  obtain rfl := HK.out
  have h6 : k ≤ 511 := by omega
  clear h5 h0
  go_loopw [7] (fun v wr => ∃ q A' c', n ≤ q ∧ q ≤ max n (k + 1) ∧ v = .slice A' q c' ∧ wr.ownsRow w.heap.size 3 1 (.slice A' q c') q (cells .i64 (l ++ List.replicate (q - n) 0)) ∧ Below w.heap.size w wr) (fun v _ => max n (k + 1) - lenOf v)
  case atStart => exact ⟨n, A1, c1, Nat.le_refl _, by omega, rfl, by simpa using hown1, hb1⟩
  case round =>
    obtain ⟨q, A2, c2, hq1, hq2, rfl, hown, hb⟩ := hrel
    clear hown1 hb1
    by_cases hlt : q ≤ k
    · go_wp2_with (at_builtin; refine wpList_append_new wr _ _ rfl (.tmp 26) (.tmp 27) 22 rfl w.heap.size 3 i0 _ 1 8 Try.underlying22 hi0 hz0 hz1 hz2 rfl (by decide) (.slice A2 q c2) q _ rfl hown 1 rfl rfl (by intro u hu; simp at hu; subst hu; rfl) (by simp only [maxLen]; omega) (by omega) hb.size ?_; intro A3 c3 w3 hown3 hg3 hb3 _)
      go_roundw
      case rel =>
        refine ⟨q + 1, A3, c3, by omega, by omega, rfl, ?_, hb.trans hb3⟩
        have e : q + 1 - n = (q - n) + 1 := by omega
        rw [e, List.replicate_succ', ← List.append_assoc, cells_append]
        exact hown3
      case measure => simp only [lenOf]; omega
    · obtain rfl : q = max n (k + 1) := by omega
      have hkl : k < (l ++ List.replicate (max n (k + 1) - n) 0).length := by simp [hl.out]; omega
      obtain ⟨g, rfl, hbg, hgl, hc', hf⟩ := own_at hown (cells_get (List.getElem?_eq_getElem hkl))
      go_wp2_with fail
      go_ret
      refine ⟨_, c2, rfl, ?_, hb.setCell (p := ⟨g, k, none⟩) hbg _⟩
      rw [HT.out, ← cells_set]
      have e : max n (k + 1) - n = k + 1 - n := by omega
      rw [e] at hown
      exact (own_set hown k _).1
end Go.Proofs.Ytmeodnpnbgaehaa
