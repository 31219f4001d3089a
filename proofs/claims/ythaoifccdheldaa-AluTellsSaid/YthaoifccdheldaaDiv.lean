/- The walks of cell.Div and of the document's Div: the quotient, rounded down, and the rest, of two cells. -/
import Derived.Test.YthaoifccdheldaaRows
import Derived.WalkKit
import Derived.WalkSpells
import Derived.WalkLawsBesides
import Derived.Lib.Hide
import Derived.Deep.QuietTactic
import Derived.BigQuiet
namespace Go.Proofs.Ythaoifccdheldaa
open Go.RowKit
set_option linter.unusedVariables false

/-- is the rest of a quotient, cut towards 0, to be turned? -/
def adj (a b : Int) : Bool := decide (a.tmod b ≠ 0) && (decide (a.tmod b < 0) != decide (b < 0))
/-- the quotient, rounded down, gone round; the rest; the code -/
def vQ (a b : Int) : Int := if b = 0 then 0 else if adj a b = true then wrap64 (wrap64 (a.tdiv b) - 1) else wrap64 (a.tdiv b)
def vR (a b : Int) : Int := if b = 0 then 0 else if adj a b = true then wrap64 (a.tmod b + b) else a.tmod b
def vE (b : Int) : Int := if b = 0 then -10 else 0
/-- an i64 -/
def In64 (a : Int) : Prop := -9223372036854775808 ≤ a ∧ a ≤ 9223372036854775807

theorem ret_iii {a b c p q r : Int} (h1 : a = p) (h2 : b = q) (h3 : c = r) : Ending.returned (.tuple #[.int .i64 a, .int .i64 b, .int .i64 c]) = .returned (.tuple #[.int .i64 p, .int .i64 q, .int .i64 r]) := by rw [h1, h2, h3]
theorem ret_i {a p : Int} (h1 : a = p) : Ending.returned (.int .i64 a) = .returned (.int .i64 p) := by rw [h1]
theorem ret_ib {a p : Int} {b q : Bool} (h1 : a = p) (h2 : b = q) : Ending.returned (.tuple #[.int .i64 a, .bool b]) = .returned (.tuple #[.int .i64 p, .bool q]) := by rw [h1, h2]
theorem ret_ibi {a p c r : Int} {b q : Bool} (h1 : a = p) (h2 : b = q) (h3 : c = r) : Ending.returned (.tuple #[.int .i64 a, .bool b, .int .i64 c]) = .returned (.tuple #[.int .i64 p, .bool q, .int .i64 r]) := by rw [h1, h2, h3]

theorem wrap64_of {n : Int} (h : In64 n) : wrap64 n = n := IntWalk.wrap64_in n ⟨h.1, h.2⟩
theorem wrap64_range (n : Int) : In64 (wrap64 n) := by unfold In64 wrap64; omega
theorem wrap64_congr {n m : Int} (h : n % 18446744073709551616 = m % 18446744073709551616) : wrap64 n = wrap64 m := by unfold wrap64; omega
theorem wrap64_mod (n : Int) : wrap64 n % 18446744073709551616 = n % 18446744073709551616 := by unfold wrap64; omega

theorem tmod_range {a b : Int} (ha : In64 a) (hb : b ≠ 0) : In64 (a.tmod b) := by
  have h := Int.natAbs_tmod a b
  have h2 := Nat.mod_le a.natAbs b.natAbs
  have h3 := Nat.mod_lt a.natAbs (y := b.natAbs) (by omega)
  rw [← h] at h2 h3
  unfold In64 at *
  by_cases hm : a = -9223372036854775808
  · subst hm
    have hs : (Int.tmod (-9223372036854775808) b) ≤ 0 := by
      have e : Int.tmod (-9223372036854775808) b = -(Int.tmod 9223372036854775808 b) := Int.neg_tmod 9223372036854775808 b
      have := Int.tmod_nonneg (a := 9223372036854775808) b (by decide)
      omega
    omega
  · omega

/-- Bool forms of what the tests ask. -/
theorem beq_t {a b : Int} (h : a = b) : (a == b) = true := by rw [h]; simp
theorem beq_f {a b : Int} (h : a ≠ b) : (a == b) = false := beq_eq_false_iff_ne.2 h
theorem bne_t {a b : Int} (h : a ≠ b) : (a != b) = true := bne_iff_ne.2 h
theorem bne_f {a b : Int} (h : a = b) : (a != b) = false := by rw [h]; simp

theorem div_zero (a : Int) (w : World) : Calls Try.prog 27 #[.int .i64 a, .int .i64 0] w fun e w' => e = .returned (.tuple #[.int .i64 0, .int .i64 0, .int .i64 (-10)]) ∧ w = w' := by
  go_enter Try.func27, Try.ntmps27
  go_wp2
  go_ret3
  exact ⟨rfl, rfl⟩

set_option maxHeartbeats 800000 in
theorem div_some (a b : Int) (w : World) (ha : In64 a) (hb : In64 b) (h0 : ¬ b = 0) :
    Calls Try.prog 27 #[.int .i64 a, .int .i64 b] w fun e w' => e = .returned (.tuple #[.int .i64 (vQ a b), .int .i64 (vR a b), .int .i64 0]) ∧ ∃ n, w' = w.drewN n := by
  have hq : vQ a b = if adj a b = true then wrap64 (wrap64 (a.tdiv b) - 1) else wrap64 (a.tdiv b) := by unfold vQ; rw [if_neg h0]
  have hr : vR a b = if adj a b = true then wrap64 (a.tmod b + b) else a.tmod b := by unfold vR; rw [if_neg h0]
  have hz := beq_f h0
  rw [hq, hr]
  clear hq hr
  by_cases hm : a.tmod b = 0
  · have hadj : adj a b = false := by unfold adj; simp [hm]
    rw [hadj]
    have hm1 := beq_t hm
    have hm2 := bne_f hm
    clear hm hadj
    go_enter Try.func27, Try.ntmps27
    go_wp2_with fail
    go_quiet (fail)
    go_wp2
    go_ret3
    exact ⟨rfl, _, rfl⟩
  · have hm1 := beq_f hm
    have hm2 := bne_t hm
    have hall : adj a b = (decide (a.tmod b < 0) != decide (b < 0)) := by unfold adj; simp [hm]
    rw [hall]
    have hor1 : a.tmod b < 0 ∨ 0 < a.tmod b := by omega
    have hor2 : b < 0 ∨ 0 < b := by omega
    clear hm hall
    rcases hor1 with h1 | h1 <;> rcases hor2 with h2 | h2
    · have e : (decide (a.tmod b < 0) != decide (b < 0)) = false := by simp [h1, h2]
      rw [e]; clear e
      have hd1 : decide (a.tmod b < 0) = true := by simp; omega
      have hd2 : decide (b < 0) = true := by simp; omega
      go_enter Try.func27, Try.ntmps27
      go_wp2_with fail
      go_quiet (fail)
      go_wp2
      go_ret3
      exact ⟨rfl, _, rfl⟩
    · have e : (decide (a.tmod b < 0) != decide (b < 0)) = true := by simp [h1]; omega
      rw [e]; clear e
      have hd1 : decide (a.tmod b < 0) = true := by simp; omega
      have hd2 : decide (b < 0) = false := by simp; omega
      go_enter Try.func27, Try.ntmps27
      go_wp2_with fail
      go_quiet (fail)
      go_wp2
      go_ret3
      exact ⟨rfl, _, rfl⟩
    · have e : (decide (a.tmod b < 0) != decide (b < 0)) = true := by simp [h2]; omega
      rw [e]; clear e
      have hd1 : decide (a.tmod b < 0) = false := by simp; omega
      have hd2 : decide (b < 0) = true := by simp; omega
      go_enter Try.func27, Try.ntmps27
      go_wp2_with fail
      go_quiet (fail)
      go_wp2
      go_ret3
      exact ⟨rfl, _, rfl⟩
    · have e : (decide (a.tmod b < 0) != decide (b < 0)) = false := by
        rw [decide_eq_false (by omega), decide_eq_false (by omega)]; rfl
      rw [e]; clear e
      have hd1 : decide (a.tmod b < 0) = false := by simp; omega
      have hd2 : decide (b < 0) = false := by simp; omega
      go_enter Try.func27, Try.ntmps27
      go_wp2_with fail
      go_quiet (fail)
      go_wp2
      go_ret3
      exact ⟨rfl, _, rfl⟩
end Go.Proofs.Ythaoifccdheldaa
