/- The law StripeOne: the walk. -/
import Derived.Test.YtjbfkpajplmmgaaStrD
import Derived.Deep.DeepCutAuto
namespace Go.Proofs.Ytjbfkpajplmmgaa
open Go.RowKit

theorem one_x {P Q X : Nat} : oX P Q 1 X = X / (P * Q) := by
  unfold oX; rw [Nat.div_one, Nat.mod_one, Nat.mul_one, Nat.add_zero, Nat.div_div_eq_div_mul]
theorem one_a {P Q X : Nat} : oA P Q 1 X = X % (P * Q) := by
  unfold oA; rw [Nat.div_one, Nat.mod_mul, Nat.mul_comm, Nat.add_comm]
theorem whole_x {P C X : Nat} : oX P 1 C X = X / P := by
  unfold oX; rw [Nat.div_one, Nat.mul_comm]; exact Nat.div_add_mod _ _
theorem whole_a {P C X : Nat} : oA P 1 C X = X % P := by
  unfold oA; rw [Nat.mod_one, Nat.zero_mul, Nat.zero_add]

set_option maxHeartbeats 1000000 in
theorem one_law (a b x : Int) (w : World) : Calls Try.prog 6 #[.int .i64 a, .int .i64 b, .int .i64 x] w fun e w' => e = .returned (.bool true) ∧ Below w.heap.size w w' := by
  obtain ⟨U, D, C, u2, d6, d3, c1, c4, hC, hsh⟩ := shape8_any a b 0 w
  have hC1 : C = 1 := by omega
  subst hC1
  clear hC c1 c4
  have H1 : bits .and .i64 x 65535 = x % 65536 := i64_mask 16 (by decide) x 65535 (by decide)
  have H2 : bits .and .i64 b 3 = b % 4 := i64_mask 2 (by decide) b 3 (by decide)
  obtain ⟨X, hX⟩ : ∃ X : Nat, x % 65536 = (X : Int) := ⟨(x % 65536).toNat, by omega⟩
  obtain ⟨C, hC⟩ : ∃ C : Nat, 1 + b % 4 = (C : Int) := ⟨(1 + b % 4).toNat, by omega⟩
  have hX1 : X < 65536 := by omega
  have c1 : 1 ≤ C ∧ C ≤ 4 := by omega
  have c4 : 0 ≤ b % 4 ∧ b % 4 < 4 := by omega
  rw [hX] at H1
  clear hX
  have hpl := fun w => place_yes U D 1 X w u2 d6 d3 (by omega) (by omega) (by omega)
  have hpw := fun w => place_yes (U + D) 0 C X w (by omega) (by omega) (by omega) c1.1 c1.2 (by omega)
  rw [one_x, one_a, ← Nat.pow_add] at hpl
  rw [Nat.pow_zero, whole_x, whole_a] at hpw
  have ho : ((U + D : Nat) : Int) + ((0 : Nat) : Int) = (U : Int) + D := by push_cast; omega
  have ho2 : ((U + D : Nat) : Int) = (U : Int) + D := by push_cast; rfl
  rw [ho, ho2] at hpw
  clear ho ho2
  generalize b % 4 = b' at *
  obtain ⟨N, hN⟩ : ∃ N : Nat, N = 2 ^ (U + D) := ⟨_, rfl⟩
  rw [← hN] at hpl hpw
  have hN2 : 8 ≤ N ∧ N ≤ 64 := by
    subst hN
    rcases (by omega : U + D = 3 ∨ U + D = 4 ∨ U + D = 5 ∨ U + D = 6) with e | e | e | e <;> rw [e] <;> decide
  obtain ⟨o, ho⟩ : ∃ o : Int, (U : Int) + D = o := ⟨_, rfl⟩
  have hoN : (2 : Int) ^ o.toNat = (N : Int) := by
    rw [hN, ← ho]; push_cast; congr 1
  rw [ho] at hpl hpw hsh
  have o3 : 3 ≤ o ∧ o ≤ 6 := by omega
  have t1 : (X : Int).tdiv N = (X : Int) / N := Int.tdiv_eq_ediv_of_nonneg (by omega)
  have t2 : (X : Int).tmod N = (X : Int) % N := Int.tmod_eq_emod_of_nonneg (by omega)
  obtain ⟨d, hd⟩ : ∃ d : Nat, X / N = d := ⟨_, rfl⟩
  obtain ⟨r, hr⟩ : ∃ r : Nat, X % N = r := ⟨_, rfl⟩
  have t3 : (X : Int) / N = (d : Int) := by rw [← hd]; push_cast; rfl
  have t4 : (X : Int) % N = (r : Int) := by rw [← hr]; push_cast; rfl
  have d9 : d ≤ 65535 := by rw [← hd]; exact Nat.le_trans (Nat.div_le_self _ _) (by omega)
  have r9 : r < 64 := by rw [← hr]; have := Nat.mod_lt X (by omega : 0 < N); omega
  rw [t3] at t1
  rw [t4] at t2
  rw [hd, hr] at hpl hpw
  clear hd hr
  have hoN2 : wrap64 (2 ^ o.toNat) = (N : Int) := by rw [hoN]; unfold wrap64; omega
  have HO2 := Lib.hid hoN2
  have T := Lib.hid (And.intro (And.intro t1 t2) (And.intro t3 t4))
  clear hoN hoN2 t1 t2 t3 t4
  have HN := Lib.hid hN
  have HO := Lib.hid ho
  clear hN ho
  go_enter Try.func6, Try.ntmps6
  go_wp2_with fail
  refine hsh.mono ?_
  rintro e wa ⟨rfl, hb⟩
  clear hsh
  go_wp2_with fail
  refine (hpl _).mono ?_
  rintro e wb ⟨rfl, hbb⟩
  have hx : wb.heap[wa.heap.size]? = some (.cells #[.int .i64 o, .int .i64 U, .int .i64 (1 : Nat)] 23 (0, 0)) := (hbb.block _ (by simp <;> omega)).trans (blk_new rfl)
  have fx := blk_cell hx
  have hz : wa.heap.size < wb.heap.size := blk_lt hx
  have hz1 : wa.heap.size < wb.heap.size + 1 := by omega
  have hw : Below w.heap.size w wb := hb.trans (Below.trans (B := w.heap.size) (a := wa) (by have := hb.size; (repeat (first | with_reducible exact Below.refl _ _ | with_reducible assumption | with_reducible refine Below.drew ?_ | with_reducible refine below_drewN ?_ _ | with_reducible refine Below.setCell ?_ (by first | omega | (simp <;> omega)) _ | with_reducible refine Below.alloc ?_ (by first | omega | (simp <;> omega)) _))) (hbb.mono (by have := hb.size; simp <;> omega)))
  clear hbb
  go_wp2_with fail
  refine (hpw _).mono ?_
  rintro e wc ⟨rfl, hbc⟩
  have hxc := (hbc.block _ (by simp <;> omega)).trans ((blk_old (by omega)).trans hx)
  have fxc := blk_cell hxc
  have hzc : wa.heap.size < wc.heap.size := blk_lt hxc
  have hwc : Below w.heap.size w wc := Below.trans (B := w.heap.size) (a := w) hw (Below.trans (B := w.heap.size) (a := wb) (by have := hw.size; (repeat (first | with_reducible exact Below.refl _ _ | with_reducible assumption | with_reducible refine Below.drew ?_ | with_reducible refine below_drewN ?_ _ | with_reducible refine Below.setCell ?_ (by first | omega | (simp <;> omega)) _ | with_reducible refine Below.alloc ?_ (by first | omega | (simp <;> omega)) _))) (hbc.mono (by have := hw.size; simp <;> omega)))
  clear hbc hx fx hz hz1 hw hpl hpw H1 H2 hC HN HO
  go_upto_region 7 with fail
  rw [HO2.out]
  obtain ⟨⟨t1, t2⟩, t3, t4⟩ := T.out
  clear T HO2 hxc fxc hzc
  have n0 : ¬ ((N : Int) = 0) := by omega
  go_wp2_with fail
  refine (known_any _).mono ?_
  rintro e wd ⟨rfl, hbd⟩
  go_wp2_with fail
  go_ret
  exact ⟨rfl, hwc.trans (hbd.mono hwc.size)⟩
end Go.Proofs.Ytjbfkpajplmmgaa
