/- What the bytes of a map are, state by state: plain laws on lists, no program. Conditions: those that each theorem states. -/
import Derived.Test.YtmeodnpnbgaehaaMapA
namespace Go.Proofs.Ytmeodnpnbgaehaa
open Go.RowKit

def byteAt (l : List Int) (k j : Nat) : Nat :=
  (if 4 * j < k then (l.getD (4 * j) 0).toNat else 0) + 4 * (if 4 * j + 1 < k then (l.getD (4 * j + 1) 0).toNat else 0) +
  16 * (if 4 * j + 2 < k then (l.getD (4 * j + 2) 0).toNat else 0) + 64 * (if 4 * j + 3 < k then (l.getD (4 * j + 3) 0).toNat else 0)
def accM (l : List Int) (k : Nat) : List Int := (List.range ((l.length + 3) / 4)).map fun j => (byteAt l k j : Int)

theorem st3_le {x : Int} (h : st3 x = true) : 0 ≤ x ∧ x ≤ 2 := by
  simp [st3] at h; omega
theorem right_at {l : List Int} (h : rightM l = true) (i : Nat) : 0 ≤ l.getD i 0 ∧ l.getD i 0 ≤ 2 := by
  simp only [rightM, Bool.and_eq_true, List.all_eq_true] at h
  rw [List.getD_eq_getElem?_getD]
  cases hx : l[i]? with
  | none => simp
  | some x => exact st3_le (h.1 x (List.mem_of_getElem? hx))
theorem byteAt_step {l : List Int} {j r : Nat} (hr : r < 4) : byteAt l (4 * j + r + 1) j = byteAt l (4 * j + r) j + 4 ^ r * (l.getD (4 * j + r) 0).toNat := by
  unfold byteAt
  rcases (by omega : r = 0 ∨ r = 1 ∨ r = 2 ∨ r = 3) with rfl | rfl | rfl | rfl <;> simp <;> (repeat' split) <;> omega
theorem byteAt_lt {l : List Int} (h : rightM l = true) {j r : Nat} (hr : r < 4) : byteAt l (4 * j + r) j < 4 ^ r := by
  have h0 := right_at h (4 * j)
  have h1 := right_at h (4 * j + 1)
  have h2 := right_at h (4 * j + 2)
  unfold byteAt
  generalize l.getD (4 * j) 0 = a0 at *
  generalize l.getD (4 * j + 1) 0 = a1 at *
  generalize l.getD (4 * j + 2) 0 = a2 at *
  rcases (by omega : r = 0 ∨ r = 1 ∨ r = 2 ∨ r = 3) with rfl | rfl | rfl | rfl <;> simp <;> (repeat' split) <;> omega
theorem byteAt_far {l : List Int} {k j : Nat} (hj : k / 4 ≠ j) : byteAt l (k + 1) j = byteAt l k j := by
  unfold byteAt
  have e0 : (4 * j < k + 1) = (4 * j < k) := by apply propext; omega
  have e1 : (4 * j + 1 < k + 1) = (4 * j + 1 < k) := by apply propext; omega
  have e2 : (4 * j + 2 < k + 1) = (4 * j + 2 < k) := by apply propext; omega
  have e3 : (4 * j + 3 < k + 1) = (4 * j + 3 < k) := by apply propext; omega
  simp only [e0, e1, e2, e3]
theorem accM_zero (l : List Int) : List.replicate ((l.length + 3) / 4) (Value.int .u8 0) = cells .u8 (accM l 0) := by
  rw [cells_replicate]
  congr 1
  apply List.ext_getElem?
  intro i
  simp only [accM, List.getElem?_replicate, List.getElem?_map]
  by_cases hi : i < (l.length + 3) / 4 <;> simp [hi, byteAt]
theorem accM_at {l : List Int} {n k : Nat} (hl : l.length = n) (hk : k < n) : (accM l k)[k / 4]? = some (byteAt l k (k / 4) : Int) := by
  have hj : k / 4 < (l.length + 3) / 4 := by omega
  simp [accM, hj]
theorem pow_four (r : Nat) : (2 : Nat) ^ (r * 2) = 4 ^ r := by rw [Nat.mul_comm, Nat.pow_mul]
theorem or_value {l : List Int} (h : rightM l = true) {k : Nat} {x y : Int} (hx : l[k]? = some x) (hy : (accM l k)[k / 4]? = some y) :
    bits .or .u8 y (x % 256 * 2 ^ (k % 4 * 2) % 256) = (byteAt l (k + 1) (k / 4) : Int) := by
  have hr : k % 4 < 4 := Nat.mod_lt _ (by decide)
  have hk : 4 * (k / 4) + k % 4 = k := Nat.div_add_mod k 4
  have hy' : y = (byteAt l k (k / 4) : Int) := by
    have hlk := (List.getElem?_eq_some_iff.1 hx).1
    simp only [accM, List.getElem?_map] at hy
    rw [List.getElem?_range (by omega)] at hy
    simpa using hy.symm
  have hs := byteAt_step (l := l) (j := k / 4) hr
  have hb := byteAt_lt h (j := k / 4) hr
  have hd := right_at h k
  rw [hk] at hs hb
  have hxd : l.getD k 0 = x := by simp [hx]
  rw [hxd] at hs hd
  obtain ⟨d, rfl⟩ := Int.eq_ofNat_of_zero_le hd.1
  subst hy'
  rw [hs]
  generalize byteAt l k (k / 4) = b at *
  have h4 : 4 ^ (k % 4) ≤ 64 := by
    rcases (by omega : k % 4 = 0 ∨ k % 4 = 1 ∨ k % 4 = 2 ∨ k % 4 = 3) with e | e | e | e <;> rw [e] <;> decide
  have h4p : 0 < 4 ^ (k % 4) := Nat.pow_pos (by decide)
  have e1 : ((d : Int) % 256 * 2 ^ (k % 4 * 2) % 256) = ((4 ^ (k % 4) * d : Nat) : Int) := by
    have hd' : d ≤ 2 := by omega
    have hdm : (d : Int) % 256 = d := by omega
    rw [hdm]
    have hp : ((2 : Int) ^ (k % 4 * 2)) = ((4 ^ (k % 4) : Nat) : Int) := by rw [← pow_four]; norm_cast
    rw [hp]
    have hle : 4 ^ (k % 4) * d ≤ 128 := by
      have := Nat.mul_le_mul h4 hd'
      omega
    have e : ((d : Int) * ((4 ^ (k % 4) : Nat) : Int)) = ((4 ^ (k % 4) * d : Nat) : Int) := by rw [Nat.mul_comm]; norm_cast
    rw [e]
    omega
  rw [e1]
  have hle : 4 ^ (k % 4) * d ≤ 128 := by
    have := Nat.mul_le_mul h4 (by omega : d ≤ 2)
    omega
  have hor := u8_or_nat b (4 ^ (k % 4) * d) (by omega) (by omega)
  rw [hor]
  have : b ||| 4 ^ (k % 4) * d = b + 4 ^ (k % 4) * d := by
    rw [Nat.or_comm, ← pow_four, ← Nat.two_pow_add_eq_or_of_lt (by rw [pow_four]; exact hb)]
    omega
  rw [this, Int.toNat_natCast]
theorem accM_step {l : List Int} (h : rightM l = true) {k : Nat} {x y : Int} (hx : l[k]? = some x) (hy : (accM l k)[k / 4]? = some y) :
    (accM l k).set (k / 4) (bits .or .u8 y (x % 256 * 2 ^ (k % 4 * 2) % 256)) = accM l (k + 1) := by
  rw [or_value h hx hy]
  apply List.ext_getElem?
  intro i
  rw [List.getElem?_set]
  by_cases hi : k / 4 = i
  · subst hi
    have hlk := (List.getElem?_eq_some_iff.1 hx).1
    have hj : k / 4 < (l.length + 3) / 4 := by omega
    simp [accM, hj]
  · rw [if_neg hi]
    simp only [accM, List.getElem?_map]
    cases hr : (List.range ((l.length + 3) / 4))[i]? with
    | none => rfl
    | some q =>
      have : q = i := by
        have := List.getElem?_eq_some_iff.1 hr
        obtain ⟨h1, h2⟩ := this
        simpa using h2.symm
      subst this
      simp [byteAt_far hi]
end Go.Proofs.Ytmeodnpnbgaehaa
