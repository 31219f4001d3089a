/- Plain facts on bits: sums, and shifts up and down. -/
import Derived.Test.YthaoifccdheldaaShown
namespace Go.Proofs.Ythaoifccdheldaa
open Go.RowKit
set_option linter.unusedVariables false

theorem nat_and_add_or (x : Nat) : ∀ y : Nat, (x &&& y) + (x ||| y) = x + y := by
  induction x using Nat.strongRecOn with
  | _ x ih =>
    intro y
    by_cases h0 : x = 0
    · subst h0; simp
    · have h1 := ih (x / 2) (by omega) (y / 2)
      have h2 := Nat.and_div_two (a := x) (b := y)
      have h3 := Nat.or_div_two (a := x) (b := y)
      have h4 := Nat.and_mod_two_eq_one (a := x) (b := y)
      have h5 := Nat.or_mod_two_eq_one (a := x) (b := y)
      omega
theorem nat_and_add_xor (x : Nat) : ∀ y : Nat, (x &&& y) + (x ^^^ y) = x ||| y := by
  induction x using Nat.strongRecOn with
  | _ x ih =>
    intro y
    by_cases h0 : x = 0
    · subst h0; simp
    · have h1 := ih (x / 2) (by omega) (y / 2)
      have h2 := Nat.and_div_two (a := x) (b := y)
      have h3 := Nat.or_div_two (a := x) (b := y)
      have h6 := Nat.xor_div_two (a := x) (b := y)
      have h4 := Nat.and_mod_two_eq_one (a := x) (b := y)
      have h5 := Nat.or_mod_two_eq_one (a := x) (b := y)
      have h7 := Nat.xor_mod_two_eq_one (a := x) (b := y)
      omega

/-- a cell's bits -/
def nb (a : Int) : Nat := (BitVec.ofInt 64 a).toNat
theorem nb_eq (a : Int) : ((nb a : Nat) : Int) = a % 18446744073709551616 := ofInt_toNat a
theorem nb_lt (a : Int) : nb a < 18446744073709551616 := (BitVec.ofInt 64 a).isLt
theorem bits_and (a b : Int) : bits .and .i64 a b = wrap64 ((nb a &&& nb b : Nat) : Int) := by
  have e : bits .and .i64 a b = IntKind.i64.wrap ((BitVec.ofInt 64 a &&& BitVec.ofInt 64 b).toNat : Nat) := rfl
  rw [e, BitVec.toNat_and, wrapI64]; rfl
theorem bits_or (a b : Int) : bits .or .i64 a b = wrap64 ((nb a ||| nb b : Nat) : Int) := by
  have e : bits .or .i64 a b = IntKind.i64.wrap ((BitVec.ofInt 64 a ||| BitVec.ofInt 64 b).toNat : Nat) := rfl
  rw [e, BitVec.toNat_or, wrapI64]; rfl
theorem bits_xor (a b : Int) : bits .xor .i64 a b = wrap64 ((nb a ^^^ nb b : Nat) : Int) := by
  have e : bits .xor .i64 a b = IntKind.i64.wrap ((BitVec.ofInt 64 a ^^^ BitVec.ofInt 64 b).toNat : Nat) := rfl
  rw [e, BitVec.toNat_xor, wrapI64]; rfl
theorem and_in (a b : Int) : In64 (bits .and .i64 a b) := by rw [bits_and]; exact wrap64_range _
theorem or_in (a b : Int) : In64 (bits .or .i64 a b) := by rw [bits_or]; exact wrap64_range _
theorem xor_in (a b : Int) : In64 (bits .xor .i64 a b) := by rw [bits_xor]; exact wrap64_range _
theorem sum_key (x y A B a b : Int) (h : x + y = A + B) (h1 : A = a % 18446744073709551616) (h2 : B = b % 18446744073709551616) : wrap64 (wrap64 x + wrap64 y) = wrap64 (a + b) := by
  have h3 := wrap64_mod x
  have h4 := wrap64_mod y
  apply wrap64_congr
  generalize wrap64 x = u at *
  generalize wrap64 y = v at *
  omega
theorem and_or_sum (a b : Int) : wrap64 (bits .and .i64 a b + bits .or .i64 a b) = wrap64 (a + b) := by
  rw [bits_and, bits_or]
  exact sum_key _ _ _ _ _ _ (by have := nat_and_add_or (nb a) (nb b); norm_cast) (nb_eq a) (nb_eq b)
theorem diff_key (x y z : Int) (h : x + z = y) : wrap64 (wrap64 y - wrap64 x) = wrap64 z := by
  have h3 := wrap64_mod x
  have h4 := wrap64_mod y
  apply wrap64_congr
  generalize wrap64 x = u at *
  generalize wrap64 y = v at *
  omega
theorem or_less_and (a b : Int) : wrap64 (bits .or .i64 a b - bits .and .i64 a b) = bits .xor .i64 a b := by
  rw [bits_and, bits_or, bits_xor]
  exact diff_key _ _ _ (by have := nat_and_add_xor (nb a) (nb b); norm_cast)

theorem two_pow_cast (n : Nat) : ((2 : Int) ^ n) = (((2 : Nat) ^ n : Nat) : Int) := by norm_cast
theorem pow_split (n : Nat) (hn : n ≤ 63) : (2 : Nat) ^ (64 - n) * 2 ^ n = 18446744073709551616 := by
  rw [← Nat.pow_add]; have : 64 - n + n = 64 := by omega
  rw [this]
theorem nat_mask (p q : Nat) (hp : 0 < p) (hq : 0 < q) (h : q * p = 18446744073709551616) : 18446744073709551615 / p = q - 1 := by
  have h5 : 18446744073709551615 = (p - 1) + (q - 1) * p := by
    have h1 : (q - 1) * p = q * p - p := by rw [Nat.sub_mul, Nat.one_mul]
    have h6 : p ≤ q * p := Nat.le_mul_of_pos_left p hq
    omega
  rw [h5, Nat.add_mul_div_right _ _ hp, Nat.div_eq_of_lt (by omega)]; omega
theorem nat_low (x p q : Nat) (hp : 0 < p) (h : q * p = 18446744073709551616) : x * p % 18446744073709551616 / p = x % q := by
  rw [← h, Nat.mul_mod_mul_right, Nat.mul_div_cancel _ hp]
theorem u_nb (a : Int) : IntKind.u64.wrap a = ((nb a : Nat) : Int) := by rw [wrapU, nb_eq]
theorem down_nb (a : Int) (n : Nat) : downBy a n = ((nb a / 2 ^ n : Nat) : Int) := by unfold downBy; rw [u_nb, two_pow_cast, Int.natCast_ediv]
theorem up_nb (a : Int) (n : Nat) : upBy a n = ((nb a * 2 ^ n % 18446744073709551616 : Nat) : Int) := by unfold upBy; rw [u_nb a, two_pow_cast, wrapU, Int.natCast_emod, Int.natCast_mul]; rfl
theorem nb_wrap (x : Nat) (h : x < 18446744073709551616) : nb (wrap64 (x : Int)) = x := by
  have h1 := nb_eq (wrap64 (x : Int))
  rw [wrap64_mod] at h1; omega
theorem nb_m1 : nb (-1) = 18446744073709551615 := by
  have h1 := nb_eq (-1); omega
theorem low_bits (a : Int) (n : Nat) (hn : n ≤ 63) : vShr (vShl a n) n = bits .and .i64 a (vShr (-1) n) := by
  have hp : 0 < (2 : Nat) ^ n := Nat.pow_pos (by decide)
  have hq : 0 < (2 : Nat) ^ (64 - n) := Nat.pow_pos (by decide)
  have h := pow_split n hn
  rw [vShr_in _ n hn, vShr_in _ n hn, vShl_in _ n hn, bits_and, down_nb, down_nb, up_nb, nb_wrap _ (Nat.mod_lt _ (by decide)), nb_m1, nat_mask _ _ hp hq h, nat_low _ _ _ hp h]
  rw [nb_wrap _ (by have : (2 : Nat) ^ (64 - n) ≤ 2 ^ (64 - n) * 2 ^ n := Nat.le_mul_of_pos_right _ hp
                    omega), Nat.and_two_pow_sub_one_eq_mod]
theorem shl_range (a b : Int) : In64 (vShl a b) := wrap64_range _
theorem shr_range (a b : Int) : In64 (vShr a b) := wrap64_range _
end Go.Proofs.Ythaoifccdheldaa
