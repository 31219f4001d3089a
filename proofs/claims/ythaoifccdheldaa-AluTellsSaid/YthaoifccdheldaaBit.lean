/- Plain facts on the bits of cells, and on quotients by 2 and by 8. -/
import Derived.Test.YthaoifccdheldaaVals
namespace Go.Proofs.Ythaoifccdheldaa
open Go.RowKit
set_option linter.unusedVariables false

theorem wrapI64 (n : Int) : IntKind.i64.wrap n = wrap64 n := by rw [IntKind.wrap_i64]; unfold wrap64; rfl
theorem ofInt_toNat (a : Int) : (((BitVec.ofInt 64 a).toNat : Nat) : Int) = a % 18446744073709551616 := by
  rw [BitVec.toNat_ofInt]
  have h : 0 ≤ a % 18446744073709551616 := Int.emod_nonneg _ (by decide)
  have e : (((2 : Nat) ^ 64 : Nat) : Int) = 18446744073709551616 := rfl
  rw [e]; omega

theorem vInv_eq {a : Int} (h : In64 a) : vInv a = -1 - a := by
  obtain ⟨h1, h2⟩ := h
  have e : bits .xor .i64 (-1) a = IntKind.i64.wrap ((BitVec.ofInt 64 (-1) ^^^ BitVec.ofInt 64 a).toNat : Nat) := rfl
  have e1 : BitVec.ofInt 64 (-1) = BitVec.allOnes 64 := by decide
  have e2 : BitVec.allOnes 64 ^^^ BitVec.ofInt 64 a = ~~~ (BitVec.ofInt 64 a) := by rw [BitVec.allOnes_xor]
  have h3 := ofInt_toNat a
  have h4 := (BitVec.ofInt 64 a).isLt
  unfold vInv
  rw [e, e1, e2, BitVec.toNat_not, wrapI64]
  generalize (BitVec.ofInt 64 a).toNat = n at *
  have e5 : (2 : Nat) ^ 64 = 18446744073709551616 := rfl
  rw [e5] at h4 ⊢
  unfold wrap64
  omega

theorem nat_andnot7 (x : Nat) (h : x < 18446744073709551616) : x &&& 18446744073709551608 = x - x % 8 := by
  have h1 : (x &&& 18446744073709551608) / 2 ^ 3 = (x / 2 ^ 3) &&& (18446744073709551608 / 2 ^ 3) := Nat.and_div_two_pow
  have h2 : (x &&& 18446744073709551608) % 2 ^ 3 = (x % 2 ^ 3) &&& (18446744073709551608 % 2 ^ 3) := Nat.and_mod_two_pow
  have e1 : 18446744073709551608 / 2 ^ 3 = 2 ^ 61 - 1 := by decide
  have e2 : 18446744073709551608 % 2 ^ 3 = 0 := by decide
  have e3 : (2 : Nat) ^ 3 = 8 := rfl
  rw [e1, Nat.and_two_pow_sub_one_eq_mod, e3] at h1
  rw [e2, Nat.and_zero, e3] at h2
  have e4 : (2 : Nat) ^ 61 = 2305843009213693952 := rfl
  rw [e4] at h1
  omega

theorem andNot7 (y : Int) : bits .andNot .i64 y 7 = wrap64 (y % 18446744073709551616 - y % 18446744073709551616 % 8) := by
  have e : bits .andNot .i64 y 7 = IntKind.i64.wrap ((BitVec.ofInt 64 y &&& ~~~ (BitVec.ofInt 64 7)).toNat : Nat) := rfl
  have h3 := ofInt_toNat y
  have h4 := (BitVec.ofInt 64 y).isLt
  have e6 : (~~~ (BitVec.ofInt 64 7)).toNat = 18446744073709551608 := by decide
  have e5 : (2 : Nat) ^ 64 = 18446744073709551616 := rfl
  rw [e5] at h4
  rw [e, BitVec.toNat_and, e6, nat_andnot7 _ h4, wrapI64]
  generalize (BitVec.ofInt 64 y).toNat = n at *
  apply wrap64_congr
  omega

theorem vAl_eq (a : Int) : vAl a = wrap64 ((a + 7) - (a + 7) % 8) := by
  unfold vAl
  rw [andNot7]
  have h1 := wrap64_mod (wrap64 (a + 8) - 1)
  have h2 := wrap64_mod (a + 8)
  generalize wrap64 (wrap64 (a + 8) - 1) = y at *
  generalize wrap64 (a + 8) = z at *
  apply wrap64_congr
  omega
theorem vAl_yes {a : Int} (h : In64 a) (hc : a % 8 = 0) : vAl a = a := by
  rw [vAl_eq]
  have e : (a + 7) - (a + 7) % 8 = a := by omega
  rw [e, wrap64_of h]
theorem vAl_no {a : Int} (h : In64 a) (hc : ¬ a % 8 = 0) : vAl a = wrap64 (wrap64 (a - a % 8) + 8) := by
  rw [vAl_eq]
  have h1 := wrap64_mod (a - a % 8)
  generalize wrap64 (a - a % 8) = y at *
  apply wrap64_congr
  omega

theorem tm_facts (a : Int) (d : Nat) (hd : 0 < d) : (d : Int) * a.tdiv d + a.tmod d = a ∧ (0 ≤ a → 0 ≤ a.tmod d ∧ a.tmod d < d) ∧ (a < 0 → -(d : Int) < a.tmod d ∧ a.tmod d ≤ 0) := by
  refine ⟨Int.mul_tdiv_add_tmod a d, fun h => ⟨Int.tmod_nonneg _ h, Int.tmod_lt_of_pos _ (by omega)⟩, fun h => ?_⟩
  have h1 := Int.neg_tmod (-a) d
  rw [Int.neg_neg] at h1
  have h2 := Int.tmod_nonneg (a := -a) (d : Int) (by omega)
  have h3 := Int.tmod_lt_of_pos (-a) (b := (d : Int)) (by omega)
  omega

theorem rdiv_2 (a : Int) (h : In64 a) : ∀ w, Calls Try.prog 25 #[.int .i64 a, .int .i64 2] w fun e w' => e = .returned (.tuple #[.int .i64 (a / 2), .int .i64 (a % 2), .int .i64 0]) ∧ w = w' := by
  intro w
  have hc := rdiv_some a 2 w h ⟨by decide, by decide⟩ (by decide)
  obtain ⟨f1, f2, f3⟩ := tm_facts a 2 (by decide)
  have e2 : ((2 : Nat) : Int) = 2 := rfl
  rw [e2] at f1 f2 f3
  obtain ⟨h1, h2⟩ := h
  have hq : vQ a 2 = a / 2 ∧ vR a 2 = a % 2 := by
    unfold vQ vR adj
    have hd0 : ¬ (2 : Int) = 0 := by decide
    rw [if_neg hd0, if_neg hd0]
    have ed : decide ((2 : Int) < 0) = false := by decide
    rw [ed]
    generalize a.tdiv 2 = t at *
    generalize a.tmod 2 = r at *
    have hw : wrap64 t = t := wrap64_of ⟨by omega, by omega⟩
    rw [hw]
    by_cases hr : r < 0
    · have e3 : (decide (r ≠ 0) && (decide (r < 0) != false)) = true := by simp; omega
      rw [e3, if_pos rfl, if_pos rfl]
      exact ⟨by rw [wrap64_of ⟨by omega, by omega⟩]; omega, by rw [wrap64_of ⟨by omega, by omega⟩]; omega⟩
    · have e3 : (decide (r ≠ 0) && (decide (r < 0) != false)) = false := by simp; omega
      rw [e3, if_neg Bool.false_ne_true, if_neg Bool.false_ne_true]
      exact ⟨by omega, by omega⟩
  rw [hq.1, hq.2] at hc
  exact hc

theorem rdiv_8 (a : Int) (h : In64 a) : ∀ w, Calls Try.prog 25 #[.int .i64 a, .int .i64 8] w fun e w' => e = .returned (.tuple #[.int .i64 (a / 8), .int .i64 (a % 8), .int .i64 0]) ∧ w = w' := by
  intro w
  have hc := rdiv_some a 8 w h ⟨by decide, by decide⟩ (by decide)
  obtain ⟨f1, f2, f3⟩ := tm_facts a 8 (by decide)
  have e2 : ((8 : Nat) : Int) = 8 := rfl
  rw [e2] at f1 f2 f3
  obtain ⟨h1, h2⟩ := h
  have hq : vQ a 8 = a / 8 ∧ vR a 8 = a % 8 := by
    unfold vQ vR adj
    have hd0 : ¬ (8 : Int) = 0 := by decide
    rw [if_neg hd0, if_neg hd0]
    have ed : decide ((8 : Int) < 0) = false := by decide
    rw [ed]
    generalize a.tdiv 8 = t at *
    generalize a.tmod 8 = r at *
    have hw : wrap64 t = t := wrap64_of ⟨by omega, by omega⟩
    rw [hw]
    by_cases hr : r < 0
    · have e3 : (decide (r ≠ 0) && (decide (r < 0) != false)) = true := by simp; omega
      rw [e3, if_pos rfl, if_pos rfl]
      exact ⟨by rw [wrap64_of ⟨by omega, by omega⟩]; omega, by rw [wrap64_of ⟨by omega, by omega⟩]; omega⟩
    · have e3 : (decide (r ≠ 0) && (decide (r < 0) != false)) = false := by simp; omega
      rw [e3, if_neg Bool.false_ne_true, if_neg Bool.false_ne_true]
      exact ⟨by omega, by omega⟩
  rw [hq.1, hq.2] at hc
  exact hc
end Go.Proofs.Ythaoifccdheldaa
