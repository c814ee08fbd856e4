/- Numbers by sevens: plain laws, no program. Conditions: those that each theorem states. -/
import Derived.Test.YtongakhcmdkeiaaBase
namespace Go.Proofs.Ytongakhcmdkeiaa
open Go.RowKit

/-- 'u | x << s' where u has no bit from s on. -/
theorem or_sum {K : IntKind} {N : Nat} (hK : K.bits = N) {u x s : Nat} (hu : u < 2 ^ s) (hN : 2 ^ s * x + u < 2 ^ N) (hw : ∀ m : Nat, m = 2 ^ s * x + u → K.wrap (m : Int) = (m : Int)) : bits .or K (u : Int) ((2 ^ s * x : Nat) : Int) = ((2 ^ s * x + u : Nat) : Int) := by
  subst hK
  have h1 : (BitVec.ofInt K.bits (u : Int)).toNat = u := by
    rw [BitVec.toNat_ofInt]
    have : u < 2 ^ K.bits := by omega
    rw [← Int.natCast_emod, Int.toNat_natCast, Nat.mod_eq_of_lt this]
  have h2 : (BitVec.ofInt K.bits ((2 ^ s * x : Nat) : Int)).toNat = 2 ^ s * x := by
    rw [BitVec.toNat_ofInt]
    have : 2 ^ s * x < 2 ^ K.bits := by omega
    rw [← Int.natCast_emod, Int.toNat_natCast, Nat.mod_eq_of_lt this]
  show K.wrap ((BitVec.ofInt K.bits (u : Int) ||| BitVec.ofInt K.bits ((2 ^ s * x : Nat) : Int)).toNat : Nat) = _
  rw [BitVec.toNat_or, h1, h2, Nat.or_comm, ← Nat.two_pow_add_eq_or_of_lt hu]
  exact hw _ rfl
theorem or128 : ∀ a : Fin 256, (a.val ||| 128) = a.val % 128 + 128 := by decide +kernel
theorem u8_or128 {a : Nat} (ha : a < 256) : bits .or .u8 (a : Int) 128 = ((a % 128 + 128 : Nat) : Int) := by
  have h1 : (BitVec.ofInt 8 (a : Int)).toNat = a := by
    rw [BitVec.toNat_ofInt, ← Int.natCast_emod, Int.toNat_natCast, Nat.mod_eq_of_lt ha]
  show IntKind.u8.wrap ((BitVec.ofInt 8 (a : Int) ||| BitVec.ofInt 8 128).toNat : Nat) = _
  have ho : (a ||| 128) = a % 128 + 128 := or128 ⟨a, ha⟩
  rw [BitVec.toNat_or, h1, show (BitVec.ofInt 8 128).toNat = 128 from rfl, ho]
  rw [IntKind.wrap_u8]
  omega
theorem or128_small {a : Nat} (ha : a < 128) : (a ||| 128) = a + 128 := by
  have h : 128 + a = 128 ||| a := Nat.two_pow_add_eq_or_of_lt (i := 7) ha 1
  rw [Nat.or_comm]
  omega
theorem i64_or128 {a : Nat} (ha : a < 128) : bits .or .i64 (a : Int) 128 = ((a + 128 : Nat) : Int) := by
  have h1 : (BitVec.ofInt 64 (a : Int)).toNat = a := by
    rw [BitVec.toNat_ofInt, ← Int.natCast_emod, Int.toNat_natCast, Nat.mod_eq_of_lt (by omega)]
  show IntKind.i64.wrap ((BitVec.ofInt 64 (a : Int) ||| BitVec.ofInt 64 128).toNat : Nat) = _
  rw [BitVec.toNat_or, h1, show (BitVec.ofInt 64 128).toNat = 128 from rfl, or128_small ha]
  exact IntWalk.i64_in _ (by omega)
theorem u8_and127 {a : Nat} (ha : a < 256) : bits .and .u8 (a : Int) 127 = ((a % 128 : Nat) : Int) := by
  have h1 : (BitVec.ofInt 8 (a : Int)).toNat = a := by
    rw [BitVec.toNat_ofInt, ← Int.natCast_emod, Int.toNat_natCast, Nat.mod_eq_of_lt ha]
  show IntKind.u8.wrap ((BitVec.ofInt 8 (a : Int) &&& BitVec.ofInt 8 127).toNat : Nat) = _
  rw [BitVec.toNat_and, h1, show (BitVec.ofInt 8 127).toNat = 2 ^ 7 - 1 from rfl, Nat.and_two_pow_sub_one_eq_mod]
  rw [IntKind.wrap_u8]
  omega

/-- A number by sevens. -/
def varF : Nat → Nat → List Int
  | 0, n => [(n : Int)]
  | f + 1, n => if n < 128 then [(n : Int)] else ((n % 128 + 128 : Nat) : Int) :: varF f (n / 128)
def vl (n : Nat) : List Int := varF 8 n
/-- What stands for a number. -/
def getS : Nat → Nat → Nat → List Int → Option (Nat × Nat)
  | 0, _, _, _ => none
  | _ + 1, _, _, [] => none
  | f + 1, i, u, x :: r => if 128 ≤ x then getS f (i + 1) (2 ^ (7 * i) * (x % 128).toNat + u) r else if x = 0 ∧ 0 < i then none else some (2 ^ (7 * i) * (x % 128).toNat + u, i + 1)
def getV (s : List Int) : Option (Nat × List Int) := (getS 9 0 0 s).map fun x => (x.1, s.drop x.2)

theorem vl_pos (f n : Nat) : 0 < (varF f n).length := by
  cases f with
  | zero => simp [varF]
  | succ f => simp only [varF]; split <;> simp
theorem varF_len : ∀ f n, (varF f n).length ≤ f + 1
  | 0, n => by simp [varF]
  | f + 1, n => by
    have := varF_len f (n / 128)
    simp only [varF]
    split
    · simp
    · simp only [List.length_cons]; omega
theorem varF_byte : ∀ f n, n < 128 ^ (f + 1) → ∀ x ∈ varF f n, 0 ≤ x ∧ x < 256
  | 0, n, h, x, hx => by simp [varF] at hx; omega
  | f + 1, n, h, x, hx => by
    simp only [varF] at hx
    split at hx
    · simp at hx; omega
    · rcases List.mem_cons.1 hx with rfl | hx
      · omega
      · exact varF_byte f (n / 128) (by rw [Nat.pow_succ] at h; omega) x hx
/-- What is put is got, whatever follows. -/
theorem getS_var : ∀ (f i u n : Nat) (s : List Int), n < 128 ^ (f + 1) → (0 < i → 0 < n) → getS (f + 1) i u (varF f n ++ s) = some (2 ^ (7 * i) * n + u, i + (varF f n).length)
  | 0, i, u, n, s, h, h0 => by
    have hn : n < 128 := by simpa using h
    simp only [varF, List.cons_append, List.nil_append, getS]
    rw [if_neg (by omega), if_neg (by rintro ⟨e, hi⟩; have := h0 hi; omega)]
    have : ((n : Int) % 128).toNat = n := by omega
    rw [this]
    rfl
  | f + 1, i, u, n, s, h, h0 => by
    by_cases hn : n < 128
    · simp only [varF, if_pos hn, List.cons_append, List.nil_append]
      rw [getS.eq_def]
      simp only
      rw [if_neg (by omega), if_neg (by rintro ⟨e, hi⟩; have := h0 hi; omega)]
      have : ((n : Int) % 128).toNat = n := by omega
      rw [this]
      rfl
    · simp only [varF, if_neg hn, List.cons_append]
      rw [getS.eq_def]
      simp only
      have hx : (128 : Int) ≤ ((n % 128 + 128 : Nat) : Int) := by omega
      rw [if_pos hx]
      rw [getS_var f (i + 1) _ (n / 128) s (by rw [Nat.pow_succ] at h; omega) (fun _ => by omega)]
      have e : (((n % 128 + 128 : Nat) : Int) % 128).toNat = n % 128 := by omega
      rw [e]
      congr 2
      · have e2 : 2 ^ (7 * (i + 1)) = 2 ^ (7 * i) * 128 := by rw [Nat.mul_add, Nat.pow_add]
        rw [e2, Nat.mul_assoc, ← Nat.add_assoc, ← Nat.mul_add]
        congr 2
        omega
      · simp only [List.length_cons]; omega
theorem getV_var {n : Nat} (h : n < 2 ^ 63) (s : List Int) : getV (vl n ++ s) = some (n, s) := by
  have h' : n < 128 ^ (8 + 1) := by
    have : (128 : Nat) ^ 9 = 2 ^ 63 := by decide
    omega
  unfold getV vl
  rw [getS_var 8 0 0 n s h' (fun h => absurd h (by decide))]
  simp
/-- Cut short, it is none. -/
theorem getS_cut : ∀ (f i u n k : Nat), k < (varF f n).length → getS (f + 1) i u ((varF f n).take k) = none
  | 0, i, u, n, k, h => by
    simp [varF] at h
    subst h
    rfl
  | f + 1, i, u, n, 0, h => by simp [getS]
  | f + 1, i, u, n, k + 1, h => by
    by_cases hn : n < 128
    · simp [varF, hn] at h
    · simp only [varF, if_neg hn, List.length_cons] at h
      simp only [varF, if_neg hn, List.take_succ_cons]
      rw [getS.eq_def]
      simp only
      have hx : (128 : Int) ≤ ((n % 128 + 128 : Nat) : Int) := by omega
      rw [if_pos hx]
      exact getS_cut f _ _ _ k (by omega)
theorem getV_cut {n k : Nat} (h : k < (vl n).length) : getV ((vl n).take k) = none := by
  unfold getV vl
  rw [getS_cut 8 0 0 n k h]
  rfl
theorem getS_lt : ∀ (f i u : Nat) (s : List Int) {n k : Nat}, u < 2 ^ (7 * i) → getS f i u s = some (n, k) → n < 2 ^ (7 * (i + f)) ∧ k ≤ i + s.length ∧ k ≤ i + f
  | 0, _, _, _, _, _, _, h => by simp [getS] at h
  | f + 1, _, _, [], _, _, _, h => by simp [getS] at h
  | f + 1, i, u, x :: r, n, k, hu, h => by
    have hx : (x % 128).toNat < 128 := by omega
    have e2 : 2 ^ (7 * (i + 1)) = 2 ^ (7 * i) * 128 := by rw [Nat.mul_add, Nat.pow_add]
    have h1 : 2 ^ (7 * i) * (x % 128).toNat + u < 2 ^ (7 * (i + 1)) := by
      rw [e2]
      have := Nat.mul_le_mul_left (2 ^ (7 * i)) (show (x % 128).toNat + 1 ≤ 128 by omega)
      rw [Nat.mul_add] at this
      omega
    simp only [getS] at h
    split at h
    · obtain ⟨a, b, c⟩ := getS_lt f (i + 1) _ r h1 h
      refine ⟨?_, ?_, by omega⟩
      · rwa [show i + 1 + f = i + (f + 1) by omega] at a
      · simp only [List.length_cons]; omega
    · split at h
      · cases h
      · injection h with h
        injection h with ha hb
        subst ha hb
        refine ⟨Nat.lt_of_lt_of_le h1 (Nat.pow_le_pow_right (by decide) (by omega)), by simp, by omega⟩
end Go.Proofs.Ytongakhcmdkeiaa
