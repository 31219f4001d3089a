/- The walk of the document's shifted: bits, one place up or down, so many times. -/
import Derived.Test.YthaoifccdheldaaTVals
namespace Go.Proofs.Ythaoifccdheldaa
open Go.RowKit
set_option linter.unusedVariables false

theorem wrapU (n : Int) : IntKind.u64.wrap n = n % 18446744073709551616 := IntKind.wrap_u64 n
/-- a cell's bits, i places up, or down -/
def upBy (a : Int) (i : Nat) : Int := IntKind.u64.wrap (IntKind.u64.wrap a * 2 ^ i)
def downBy (a : Int) (i : Nat) : Int := IntKind.u64.wrap a / 2 ^ i
theorem u_range (n : Int) : 0 ≤ IntKind.u64.wrap n ∧ IntKind.u64.wrap n < 18446744073709551616 := by rw [wrapU]; omega
theorem upBy_zero (a : Int) : upBy a 0 = IntKind.u64.wrap a := by unfold upBy; rw [wrapU, wrapU]; simp
theorem downBy_zero (a : Int) : downBy a 0 = IntKind.u64.wrap a := by unfold downBy; simp
theorem upBy_step (a : Int) (i : Nat) : IntKind.u64.wrap (2 * upBy a i) = upBy a (i + 1) := by
  unfold upBy
  rw [wrapU, wrapU, wrapU, Int.pow_succ]
  generalize (a % 18446744073709551616) = x
  have e : x * (2 ^ i * 2) = 2 * (x * 2 ^ i) := by rw [← Int.mul_assoc, Int.mul_comm]
  rw [e, wrapU]
  omega
theorem downBy_step (a : Int) (i : Nat) : downBy a i / 2 = downBy a (i + 1) := by
  unfold downBy
  rw [Int.pow_succ, Int.ediv_ediv_of_nonneg (Int.pow_nonneg (by decide))]
theorem downBy_range (a : Int) (i : Nat) : 0 ≤ downBy a i ∧ downBy a i < 18446744073709551616 := by
  have h := u_range a
  induction i with
  | zero => rw [downBy_zero]; exact h
  | succ i ih => rw [← downBy_step]; omega
theorem upBy_range (a : Int) (i : Nat) : 0 ≤ upBy a i ∧ upBy a i < 18446744073709551616 := by unfold upBy; exact u_range _
theorem vShl_in (a : Int) (i : Nat) (h : i ≤ 63) : vShl a i = wrap64 (upBy a i) := by
  unfold vShl upBy
  have e : min (IntKind.u64.wrap (i : Int)).toNat 64 = i := by rw [wrapU]; omega
  rw [e]
theorem vShr_in (a : Int) (i : Nat) (h : i ≤ 63) : vShr a i = wrap64 (downBy a i) := by
  unfold vShr downBy
  have e : min (IntKind.u64.wrap (i : Int)).toNat 64 = i := by rw [wrapU]; omega
  rw [e]
theorem min_out {b : Int} (hb : In64 b) (h : b < 0 ∨ 63 < b) : min (IntKind.u64.wrap b).toNat 64 = 64 := by obtain ⟨h1, h2⟩ := hb; rw [wrapU]; omega
theorem vShl_out {a b : Int} (hb : In64 b) (h : b < 0 ∨ 63 < b) : vShl a b = 0 := by
  unfold vShl
  rw [min_out hb h]
  have e : (2 : Int) ^ 64 = 18446744073709551616 := by decide
  rw [e, wrapU (_ * _), Int.mul_emod_left]; exact wrap64_of ⟨by decide, by decide⟩
theorem vShr_out {a b : Int} (hb : In64 b) (h : b < 0 ∨ 63 < b) : vShr a b = 0 := by
  unfold vShr
  rw [min_out hb h]
  have e : (2 : Int) ^ 64 = 18446744073709551616 := by decide
  have hr := u_range a
  rw [e, Int.ediv_eq_zero_of_lt hr.1 hr.2]; exact wrap64_of ⟨by decide, by decide⟩

theorem shifted_out (a b : Int) (p : Bool) (w : World) (hb : In64 b) (h : b < 0 ∨ (0 ≤ b ∧ 63 < b)) :
    Calls Try.prog 30 #[.int .i64 a, .int .i64 b, .bool p] w fun e w' => e = .returned (.int .i64 0) ∧ w = w' := by
  obtain ⟨h3, h4⟩ := hb
  rcases h with h | ⟨h, h'⟩
  all_goals
    go_enter Try.func30, Try.ntmps30
    go_wp2
    go_ret
    exact ⟨rfl, rfl⟩

set_option maxHeartbeats 400000 in
theorem shifted_up (a : Int) (n : Nat) (w : World) (hn : n ≤ 63) :
    Calls Try.prog 30 #[.int .i64 a, .int .i64 (n : Int), .bool true] w fun e w' => e = .returned (.int .i64 (wrap64 (upBy a n))) ∧ w = w' := by
  go_enter Try.func30, Try.ntmps30
  go_wp2
  go_loop [7, 8] (fun u v => ∃ i : Nat, i ≤ n ∧ v = .int .i64 i ∧ u = .int .u64 (upBy a i)) (fun _ v => n - (intOf v).toNat)
  case atStart => exact ⟨0, Nat.zero_le _, rfl, by rw [upBy_zero]⟩
  case round =>
    obtain ⟨i, hi, rfl, rfl⟩ := hrel
    by_cases hlt : i < n
    · have hstep := upBy_step a i
      have H := Lib.hid hstep; clear hstep
      generalize upBy a i = x at *
      go_wp2
      go_round
      case rel => exact ⟨i + 1, by omega, by go_num, by rw [H.out]⟩
      case measure => simp [intOf]; omega
    · have he : i = n := by omega
      have H := Lib.hid he; clear he
      go_wp2
      go_ret
      exact ⟨ret_i (by rw [H.out]), rfl⟩

set_option maxHeartbeats 400000 in
theorem shifted_down (a : Int) (n : Nat) (w : World) (hn : n ≤ 63) :
    Calls Try.prog 30 #[.int .i64 a, .int .i64 (n : Int), .bool false] w fun e w' => e = .returned (.int .i64 (wrap64 (downBy a n))) ∧ w = w' := by
  go_enter Try.func30, Try.ntmps30
  go_wp2
  go_loop [7, 8] (fun u v => ∃ i : Nat, i ≤ n ∧ v = .int .i64 i ∧ u = .int .u64 (downBy a i)) (fun _ v => n - (intOf v).toNat)
  case atStart => exact ⟨0, Nat.zero_le _, rfl, by rw [downBy_zero]⟩
  case round =>
    obtain ⟨i, hi, rfl, rfl⟩ := hrel
    by_cases hlt : i < n
    · have hstep := downBy_step a i
      have hr := downBy_range a i
      have H := Lib.hid hstep; clear hstep
      obtain ⟨hr1, hr2⟩ := hr
      have H2 := Lib.hid hr2; clear hr2
      generalize downBy a i = x at *
      go_wp2
      go_round
      case rel => exact ⟨i + 1, by omega, by go_num, by have hr2 := H2.out; rw [← H.out, Int.tdiv_eq_ediv_of_nonneg hr1, wrapU, Int.emod_eq_of_lt (by omega) (by omega)]⟩
      case measure => simp [intOf]; omega
    · have he : i = n := by omega
      have H := Lib.hid he; clear he
      go_wp2
      go_ret
      exact ⟨ret_i (by rw [H.out]), rfl⟩

theorem shifted_SHL (a b : Int) (w : World) (ha : In64 a) (hb : In64 b) :
    Calls Try.prog 30 #[.int .i64 a, .int .i64 b, .bool true] w fun e w' => e = .returned (.int .i64 (vShl a b)) ∧ w = w' := by
  by_cases h : b < 0 ∨ 63 < b
  · rw [vShl_out hb h]; exact shifted_out a b true w hb (by omega)
  · obtain ⟨n, rfl⟩ : ∃ n : Nat, b = (n : Int) := ⟨b.toNat, by omega⟩
    rw [vShl_in a n (by omega)]; exact shifted_up a n w (by omega)
theorem shifted_SHR (a b : Int) (w : World) (ha : In64 a) (hb : In64 b) :
    Calls Try.prog 30 #[.int .i64 a, .int .i64 b, .bool false] w fun e w' => e = .returned (.int .i64 (vShr a b)) ∧ w = w' := by
  by_cases h : b < 0 ∨ 63 < b
  · rw [vShr_out hb h]; exact shifted_out a b false w hb (by omega)
  · obtain ⟨n, rfl⟩ : ∃ n : Nat, b = (n : Int) := ⟨b.toNat, by omega⟩
    rw [vShr_in a n (by omega)]; exact shifted_down a n w (by omega)
end Go.Proofs.Ythaoifccdheldaa
