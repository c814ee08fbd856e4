/- Bytes over objects: plain laws on numbers, no program. Conditions: those that each theorem states. -/
import Derived.Test.YtjbfkpajplmmgaaDraw
namespace Go.Proofs.Ytjbfkpajplmmgaa
open Go.RowKit

/-- Which object: P bytes of a unit, Q units of an object, c objects side by side. -/
def oX (P Q c x : Nat) : Nat := x / P / c / Q * c + x / P % c
/-- Which byte of it. -/
def oA (P Q c x : Nat) : Nat := x / P / c % Q * P + x % P
/-- Which byte of the image. -/
def bk (P Q c b a : Nat) : Nat := ((b / c * Q + a / P) * c + b % c) * P + a % P

theorem dm_div {a b c : Nat} (h : b < c) : (a * c + b) / c = a := by
  rw [Nat.mul_comm, Nat.mul_add_div (by omega), Nat.div_eq_of_lt h]; rfl
theorem dm_mod {a b c : Nat} (h : b < c) : (a * c + b) % c = b := by
  rw [Nat.mul_comm, Nat.mul_add_mod, Nat.mod_eq_of_lt h]
theorem dm_back (x c : Nat) : x / c * c + x % c = x := by rw [Nat.mul_comm]; exact Nat.div_add_mod x c

theorem oA_lt {P Q c : Nat} (hP : 0 < P) (hQ : 0 < Q) (x : Nat) : oA P Q c x < P * Q := by
  unfold oA
  have h1 := Nat.mod_lt (x / P / c) hQ
  have h2 := Nat.mod_lt x hP
  have h3 : (x / P / c % Q + 1) * P ≤ Q * P := Nat.mul_le_mul_right _ h1
  rw [Nat.add_mul, Nat.one_mul] at h3
  rw [Nat.mul_comm P Q]
  omega
theorem bk_place {P Q c : Nat} (hP : 0 < P) (hc : 0 < c) (x : Nat) : bk P Q c (oX P Q c x) (oA P Q c x) = x := by
  unfold bk oX oA
  rw [dm_div (Nat.mod_lt _ hc), dm_mod (Nat.mod_lt _ hc), dm_div (Nat.mod_lt _ hP), dm_mod (Nat.mod_lt _ hP), dm_back (x / P / c) Q, dm_back (x / P) c, dm_back x P]
theorem place_bk {P Q c : Nat} (hP : 0 < P) (hc : 0 < c) (b a : Nat) (ha : a < P * Q) : oX P Q c (bk P Q c b a) = b ∧ oA P Q c (bk P Q c b a) = a := by
  have hQ' : a / P < Q := Nat.div_lt_of_lt_mul ha
  unfold oX oA bk
  rw [dm_div (Nat.mod_lt _ hP), dm_mod (Nat.mod_lt _ hP), dm_div (Nat.mod_lt _ hc), dm_mod (Nat.mod_lt _ hc), dm_div hQ', dm_mod hQ', dm_back b c, dm_back a P]
  exact ⟨rfl, rfl⟩

theorem wrap_in {n : Int} (h1 : -9223372036854775808 ≤ n) (h2 : n ≤ 9223372036854775807) : wrap64 n = n := IntWalk.wrap64_in n ⟨h1, h2⟩
theorem pow_small {U : Nat} (h : U ≤ 6) : ∃ P : Nat, 2 ^ U = P ∧ 1 ≤ P ∧ P ≤ 64 := by
  refine ⟨2 ^ U, rfl, Nat.pow_pos (by decide), ?_⟩
  exact Nat.pow_le_pow_right (n := 2) (by decide) h
theorem mask_pow {U : Nat} (h : U ≤ 6) (X : Nat) : bits .and .i64 (X : Int) (wrap64 (wrap64 (2 ^ U) - 1)) = ((X % 2 ^ U : Nat) : Int) := by
  have e : ((2 : Int) ^ U) = ((2 ^ U : Nat) : Int) := by norm_cast
  obtain ⟨P, hP, h1, h2⟩ := pow_small h
  rw [e, hP, wrap_in (n := (P : Int)) (by omega) (by omega), wrap_in (n := (P : Int) - 1) (by omega) (by omega)]
  have hm := i64_mask U (by omega) (X : Int) ((P : Int) - 1) (by rw [hP]; omega)
  rw [hm]
  have : (P : Int) - 1 + 1 = (P : Int) := by omega
  rw [this]
  norm_cast

theorem pow_cast (U : Nat) : ((2 : Int) ^ U) = ((2 ^ U : Nat) : Int) := by norm_cast
theorem div_cast (X P : Nat) : (X : Int) / (P : Int) = ((X / P : Nat) : Int) := by norm_cast
theorem tdiv_cast (X C : Nat) : (X : Int).tdiv (C : Int) = ((X / C : Nat) : Int) := by
  rw [Int.tdiv_eq_ediv_of_nonneg (Int.natCast_nonneg X)]; norm_cast
theorem tmod_cast (X C : Nat) : (X : Int).tmod (C : Int) = ((X % C : Nat) : Int) := by
  rw [Int.tmod_eq_emod_of_nonneg (Int.natCast_nonneg X)]; norm_cast
theorem mul_cast (X C : Nat) : (X : Int) * (C : Int) = ((X * C : Nat) : Int) := by norm_cast
theorem add_cast (X C : Nat) : (X : Int) + (C : Int) = ((X + C : Nat) : Int) := by norm_cast
theorem wrap_nat {n : Nat} (h : n ≤ 9223372036854775807) : wrap64 (n : Int) = n := wrap_in (by omega) (by omega)

/-- What the walk of Place leaves in its first slot. -/
theorem place_x {U D C X : Nat} (hU : U ≤ 6) (hD : D ≤ 6) (hC : 1 ≤ C) (hC4 : C ≤ 4) (hX : X ≤ 1073741824) :
    wrap64 (wrap64 (wrap64 (((X : Int) / 2 ^ U).tdiv C) / 2 ^ D * C) + ((X : Int) / 2 ^ U).tmod C) = ((oX (2 ^ U) (2 ^ D) C X : Nat) : Int) := by
  obtain ⟨P, hP, h1, h2⟩ := pow_small hU
  obtain ⟨Q, hQ, h3, h4⟩ := pow_small hD
  have b1 : X / P ≤ X := Nat.div_le_self _ _
  have b2 : X / P / C ≤ X / P := Nat.div_le_self _ _
  have b3 : X / P / C / Q ≤ X / P / C := Nat.div_le_self _ _
  have b4 : X / P % C < C := Nat.mod_lt _ (by omega)
  have b5 : X / P / C / Q * C ≤ 1073741824 * 4 := Nat.mul_le_mul (by omega) hC4
  rw [pow_cast U, pow_cast D, hP, hQ, div_cast, tdiv_cast, tmod_cast, wrap_nat (by omega), div_cast, mul_cast, wrap_nat (by omega), add_cast, wrap_nat (by omega), oX]
theorem place_y {U D C X : Nat} (hU : U ≤ 6) (hD : D ≤ 6) (hX : X ≤ 1073741824) :
    wrap64 (wrap64 (bits BinOp.and IntKind.i64 (wrap64 (((X : Int) / 2 ^ U).tdiv C)) (wrap64 (wrap64 (2 ^ D) - 1)) * 2 ^ U) + bits BinOp.and IntKind.i64 X (wrap64 (wrap64 (2 ^ U) - 1))) = ((oA (2 ^ U) (2 ^ D) C X : Nat) : Int) := by
  have b1 : X / 2 ^ U ≤ X := Nat.div_le_self _ _
  have b2 : X / 2 ^ U / C ≤ X / 2 ^ U := Nat.div_le_self _ _
  have t : wrap64 (((X : Int) / 2 ^ U).tdiv C) = ((X / 2 ^ U / C : Nat) : Int) := by
    rw [pow_cast, div_cast, tdiv_cast, wrap_nat (by omega)]
  rw [t, mask_pow hD, mask_pow hU, pow_cast]
  obtain ⟨P, hP, h1, h2⟩ := pow_small hU
  obtain ⟨Q, hQ, h3, h4⟩ := pow_small hD
  have b3 : X / P / C % Q < Q := Nat.mod_lt _ (by omega)
  have b4 : X % P < P := Nat.mod_lt _ (by omega)
  rw [hP, hQ]
  have b5 : X / P / C % Q * P ≤ 64 * 64 := Nat.mul_le_mul (by omega) h2
  rw [mul_cast, wrap_nat (by omega), add_cast, wrap_nat (by omega), oA]
/-- What the walk of back leaves. -/
theorem back_v {U D C B A : Nat} (hU : U ≤ 6) (hD : D ≤ 6) (hC : 1 ≤ C) (hC4 : C ≤ 4) (hB : B ≤ 1048576) (hA : A ≤ 64) : bk (2 ^ U) (2 ^ D) C B A ≤ 1099511627776 := by
  obtain ⟨P, hP, h1, h2⟩ := pow_small hU
  obtain ⟨Q, hQ, h3, h4⟩ := pow_small hD
  rw [hP, hQ]
  unfold bk
  have a1 : B / C ≤ B := Nat.div_le_self _ _
  have a2 : A / P ≤ A := Nat.div_le_self _ _
  have a3 : A % P ≤ A := Nat.mod_le _ _
  have a4 : B % C < C := Nat.mod_lt _ (by omega)
  have b1 : B / C * Q ≤ 1048576 * 64 := Nat.mul_le_mul (by omega) h4
  have b2 : (B / C * Q + A / P) * C ≤ (1048576 * 64 + 64) * 4 := Nat.mul_le_mul (by omega) hC4
  have b3 : ((B / C * Q + A / P) * C + B % C) * P ≤ ((1048576 * 64 + 64) * 4 + 4) * 64 := Nat.mul_le_mul (by omega) h2
  omega
theorem mod_cast' (X C : Nat) : (X : Int) % (C : Int) = ((X % C : Nat) : Int) := by norm_cast
theorem back_w {U D C B A : Nat} (hU : U ≤ 6) (hD : D ≤ 6) (hC : 1 ≤ C) (hC4 : C ≤ 4) (hB : B ≤ 1048576) (hA : A ≤ 64) :
    wrap64 (wrap64 (wrap64 (wrap64 (wrap64 (wrap64 (wrap64 ((B : Int) / C) * 2 ^ D) + (A : Int) / 2 ^ U) * C) + (B : Int) % C) * 2 ^ U) + bits BinOp.and IntKind.i64 A (wrap64 (wrap64 (2 ^ U) - 1))) = ((bk (2 ^ U) (2 ^ D) C B A : Nat) : Int) := by
  rw [mask_pow hU, pow_cast U, pow_cast D]
  obtain ⟨P, hP, h1, h2⟩ := pow_small hU
  obtain ⟨Q, hQ, h3, h4⟩ := pow_small hD
  rw [hP, hQ]
  have a1 : B / C ≤ B := Nat.div_le_self _ _
  have a2 : A / P ≤ A := Nat.div_le_self _ _
  have a3 : A % P ≤ A := Nat.mod_le _ _
  have a4 : B % C < C := Nat.mod_lt _ (by omega)
  have b1 : B / C * Q ≤ 1048576 * 64 := Nat.mul_le_mul (by omega) h4
  have b2 : (B / C * Q + A / P) * C ≤ (1048576 * 64 + 64) * 4 := Nat.mul_le_mul (by omega) hC4
  have b3 : ((B / C * Q + A / P) * C + B % C) * P ≤ ((1048576 * 64 + 64) * 4 + 4) * 64 := Nat.mul_le_mul (by omega) h2
  rw [div_cast B C, wrap_nat (by omega), mul_cast, wrap_nat (by omega), div_cast A P, add_cast, wrap_nat (by omega), mul_cast, wrap_nat (by omega), mod_cast', add_cast, wrap_nat (by omega), mul_cast, wrap_nat (by omega), add_cast, wrap_nat (by omega), bk]
end Go.Proofs.Ytjbfkpajplmmgaa
