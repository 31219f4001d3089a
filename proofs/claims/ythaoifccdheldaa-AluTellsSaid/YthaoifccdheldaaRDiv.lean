/- The walk of the document's Div: it hands back what cell.Div does. -/
import Derived.Test.YthaoifccdheldaaDiv
namespace Go.Proofs.Ythaoifccdheldaa
open Go.RowKit
set_option linter.unusedVariables false

theorem rest_eq {a b : Int} (ha : In64 a) (hb : b ≠ 0) : wrap64 (a - wrap64 (wrap64 (a.tdiv b) * b)) = a.tmod b := by
  have e := Int.mul_tdiv_add_tmod a b
  have h1 := wrap64_mod (wrap64 (a.tdiv b) * b)
  have h2 : (wrap64 (a.tdiv b) * b) % 18446744073709551616 = (a.tdiv b * b) % 18446744073709551616 := by
    rw [Int.mul_emod, wrap64_mod, ← Int.mul_emod]
  have h3 : a.tmod b = a - a.tdiv b * b := by rw [Int.mul_comm (a.tdiv b) b]; omega
  have h4 := tmod_range ha hb
  have h5 : wrap64 (a - wrap64 (wrap64 (a.tdiv b) * b)) = wrap64 (a.tmod b) := by
    apply wrap64_congr
    rw [h3]
    generalize wrap64 (wrap64 (a.tdiv b) * b) = x at *
    generalize wrap64 (a.tdiv b) * b = y at *
    generalize a.tdiv b * b = z at *
    omega
  rw [h5, wrap64_of h4]

theorem rdiv_zero (a : Int) (w : World) : Calls Try.prog 25 #[.int .i64 a, .int .i64 0] w fun e w' => e = .returned (.tuple #[.int .i64 0, .int .i64 0, .int .i64 (-10)]) ∧ w = w' := by
  go_enter Try.func25, Try.ntmps25
  go_wp2
  go_ret3
  exact ⟨rfl, rfl⟩

set_option maxHeartbeats 800000 in
theorem rdiv_some (a b : Int) (w : World) (ha : In64 a) (hb : In64 b) (h0 : ¬ b = 0) :
    Calls Try.prog 25 #[.int .i64 a, .int .i64 b] w fun e w' => e = .returned (.tuple #[.int .i64 (vQ a b), .int .i64 (vR a b), .int .i64 0]) ∧ w = w' := by
  have hq : vQ a b = if adj a b = true then wrap64 (wrap64 (a.tdiv b) - 1) else wrap64 (a.tdiv b) := by unfold vQ; rw [if_neg h0]
  have hr : vR a b = if adj a b = true then wrap64 (a.tmod b + b) else a.tmod b := by unfold vR; rw [if_neg h0]
  have hz := beq_f h0
  have hrest := rest_eq ha h0
  rw [hq, hr]
  clear hq hr
  by_cases hm : a.tmod b = 0
  · have hadj : adj a b = false := by unfold adj; simp [hm]
    rw [hadj]
    have hge : 0 ≤ a.tmod b := by omega
    have hle : a.tmod b ≤ 0 := by omega
    clear hm hadj
    go_enter Try.func25, Try.ntmps25
    go_wp2
    go_ret3
    exact ⟨rfl, rfl⟩
  · have hall : adj a b = (decide (a.tmod b < 0) != decide (b < 0)) := by unfold adj; simp [hm]
    rw [hall]
    have hor1 : a.tmod b < 0 ∨ 0 < a.tmod b := by omega
    have hor2 : b < 0 ∨ 0 < b := by omega
    clear hm hall
    rcases hor1 with h1 | h1 <;> rcases hor2 with h2 | h2
    · have e : (decide (a.tmod b < 0) != decide (b < 0)) = false := by simp [h1, h2]
      rw [e]; clear e
      go_enter Try.func25, Try.ntmps25
      go_wp2
      go_ret3
      exact ⟨rfl, rfl⟩
    · have e : (decide (a.tmod b < 0) != decide (b < 0)) = true := by simp [h1]; omega
      rw [e]; clear e
      go_enter Try.func25, Try.ntmps25
      go_wp2
      go_ret3
      exact ⟨rfl, rfl⟩
    · have e : (decide (a.tmod b < 0) != decide (b < 0)) = true := by simp [h2]; omega
      rw [e]; clear e
      go_enter Try.func25, Try.ntmps25
      go_wp2
      go_ret3
      exact ⟨rfl, rfl⟩
    · have e : (decide (a.tmod b < 0) != decide (b < 0)) = false := by
        rw [decide_eq_false (by omega), decide_eq_false (by omega)]; rfl
      rw [e]; clear e
      go_enter Try.func25, Try.ntmps25
      go_wp2
      go_ret3
      exact ⟨rfl, rfl⟩
end Go.Proofs.Ythaoifccdheldaa
