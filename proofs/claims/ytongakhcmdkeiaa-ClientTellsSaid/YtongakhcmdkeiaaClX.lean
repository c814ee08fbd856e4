/- Equal, Get: the walks. Conditions: those that each theorem states. -/
import Derived.Test.YtongakhcmdkeiaaClV
import Derived.Test.YtongakhcmdkeiaaClW
import Derived.Laws.BytesArg
import Derived.Lib.Strings
namespace Go.Proofs.Ytongakhcmdkeiaa
open Go.RowKit

theorem conv_reads {P : Program} {w : World} {B : Nat} {A : Option Addr} {n c : Nat} {l : List Int} (src e dst : TypeId) (hs : P.underlying src = some (.slice e)) (he : P.underlying e = some (.int .u8)) (hd : P.underlying dst = some .string)
    (h : Reads w B 1 A n c (cells .u8 l)) : (convert src dst (.slice A n c)).run P w = .ok (.string (strOfNums l)) w := by
  rcases A with _ | ad
  · have : l = [] := List.eq_nil_of_length_eq_zero (by have := h.length; have := h.le; have := h.2.2.2.1 rfl; omega)
    subst this
    exact run_convert_bytes_nil w src e hs he n c dst hd
  · rcases Nat.eq_zero_or_pos n with h0 | h0
    · subst h0
      have : l = [] := List.eq_nil_of_length_eq_zero h.length
      subst this
      have hc := run_convert_bytes_back w src dst e ad c [] hs he hd (fun j hj => absurd hj (by simp))
      simpa [strOfNums] using hc
    · obtain ⟨b, o, hA, hb, hc⟩ := h.2.2.2.2 h0
      injection hA with hA
      subst hA
      refine run_convert_bytes_arg w src e hs he b o n c l h.length (fun i hi => ?_) dst hd
      have hl : i < l.length := by rw [h.length]; exact hi
      have := hc i _ (cells_get (List.getElem?_eq_getElem hl))
      simpa [List.getD, List.getElem?_eq_getElem hl] using this

def IsBytes (l : List Int) : Prop := ∀ x ∈ l, 0 ≤ x ∧ x < 256
theorem str_list (l : List Int) : (strOfNums l).toList = l.map fun n => UInt8.ofNat n.toNat := by
  rw [Lib.toList_data]
  rfl
theorem str_inj {a b : List Int} (ha : IsBytes a) (hb : IsBytes b) (h : (strOfNums a).toList = (strOfNums b).toList) : a = b := by
  rw [str_list, str_list] at h
  have hl : a.length = b.length := by simpa using congrArg List.length h
  apply List.ext_getElem hl
  intro i h1 h2
  have e : (a.map fun n => UInt8.ofNat n.toNat)[i]? = (b.map fun n => UInt8.ofNat n.toNat)[i]? := by rw [h]
  simp only [List.getElem?_map, List.getElem?_eq_getElem h1, List.getElem?_eq_getElem h2, Option.map_some, Option.some.injEq] at e
  have e' := congrArg UInt8.toNat e
  have p := ha _ (List.getElem_mem h1)
  have q := hb _ (List.getElem_mem h2)
  simp only [UInt8.toNat_ofNat'] at e'
  omega
def eqB (l r : List Int) : Bool := (strOfNums l).toList == (strOfNums r).toList
theorem eqB_self (l : List Int) : eqB l l = true := by simp [eqB]
theorem eqB_is {l r : List Int} (h : eqB l r = true) (ha : IsBytes l) (hb : IsBytes r) : l = r := str_inj ha hb (by simpa [eqB] using h)
theorem equal_any (A B : Option Addr) (n c m d : Nat) (l r : List Int) (w : World) (hA : Reads w w.heap.size 1 A n c (cells .u8 l)) (hB : Reads w w.heap.size 1 B m d (cells .u8 r)) :
    Calls Try.prog 29 #[.slice A n c, .slice B m d] w fun e w' => e = .returned (.bool (eqB l r)) ∧ w = w' := by
  have h1 := conv_reads 30 5 9 Try.underlying30 Try.underlying5 Try.underlying9 hA
  have h2 := conv_reads 30 5 9 Try.underlying30 Try.underlying5 Try.underlying9 hB
  unfold eqB
  go_enter Try.func29, Try.ntmps29
  go_wp2
  go_ret
  exact ⟨rfl, rfl⟩

def getM (l : List Int) : List Cl × Int := match parseM l with
  | none => ([], 2)
  | some L => if rightB L && eqB (putM L) l then (L, 0) else ([], 2)

set_option maxRecDepth 20000 in
set_option maxHeartbeats 2000000 in
theorem get_any (A : Option Addr) (n c : Nat) (l : List Int) (w : World) (h : Reads w w.heap.size 1 A n c (cells .u8 l)) (hby : IsBytes l) (hn : n ≤ 10000) :
    Calls Try.prog 11 #[.slice A n c] w fun e w' => OneRes w (getM l) e w' := by
  have H := Lib.hid h
  have HB := Lib.hid hby
  clear h hby
  cases hp : parseM l with
  | none =>
    have E : Hid (getM l = ([], 2)) := Lib.hid (by unfold getM; rw [hp])
    go_enter Try.func11, Try.ntmps11
    go_wp2_with fail
    refine (parse_any A n c l w H.out HB.out hn).mono ?_
    rintro e w1 h1
    rw [hp] at h1
    obtain ⟨rfl, hb1⟩ := h1
    go_wp2_with fail
    refine bodyPost_ret (v := .tuple #[.slice none 0 0, .int .i64 2]) (by simp [results, Try.results11, go_sem]) rfl ?_
    rw [E.out]
    exact one_none 2 rfl hb1
  | some L =>
    go_enter Try.func11, Try.ntmps11
    go_wp2_with fail
    refine (parse_any A n c l w H.out HB.out hn).mono ?_
    rintro e w1 h1
    rw [hp] at h1
    obtain ⟨A1, n1, c1, rfl, hown1, hb1⟩ := h1
    have hcl1 : ClAt w1 A1 n1 c1 L := Reads.of_own hown1
    have HO := Lib.hid hown1
    clear hown1
    go_wp2_with fail
    refine (put_any A1 n1 c1 L _ hcl1).mono ?_
    rintro e w2 h2
    cases hr : rightB L
    · rw [hr] at h2
      obtain ⟨rfl, hb2⟩ := h2
      have E : Hid (getM l = ([], 2)) := Lib.hid (by unfold getM; rw [hp]; simp [hr])
      clear hp hr hcl1
      go_wp2_with fail
      refine bodyPost_ret (v := .tuple #[.slice none 0 0, .int .i64 2]) (by simp [results, Try.results11, go_sem]) rfl ?_
      rw [E.out]
      exact one_none 2 rfl (hb1.trans (hb2.mono hb1.size))
    · rw [hr] at h2
      obtain ⟨A2, n2, c2, rfl, hown2, hb2⟩ := h2
      have hb12 := hb1.trans (hb2.mono hb1.size)
      have rd2 := Reads.of_own hown2
      clear hcl1
      go_wp2_with fail
      refine (equal_any A2 A n2 c2 n c (putM L) l _ rd2 (H.out.next hb12)).mono ?_
      rintro e w3 ⟨rfl, rfl⟩
      cases he : eqB (putM L) l
      · have E : Hid (getM l = ([], 2)) := Lib.hid (by unfold getM; rw [hp]; simp [he])
        clear hp hr rd2 hown2
        go_wp2_with fail
        refine bodyPost_ret (v := .tuple #[.slice none 0 0, .int .i64 2]) (by simp [results, Try.results11, go_sem]) rfl ?_
        rw [E.out]
        exact one_none 2 rfl hb12
      · have E : Hid (getM l = (L, 0)) := Lib.hid (by unfold getM; rw [hp]; simp [he, hr])
        clear hp hr rd2 hown2
        go_wp2_with fail
        refine bodyPost_ret (v := .tuple #[.slice A1 n1 c1, .int .i64 0]) (by simp [results, Try.results11, go_sem]) rfl ?_
        rw [E.out]
        exact ⟨A1, n1, c1, rfl, own_below HO.out hb2 (Nat.le_refl _), hb12⟩
end Go.Proofs.Ytongakhcmdkeiaa
