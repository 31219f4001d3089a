/- The walk of AluWithin. -/
import Derived.Test.YthaoifccdheldaaShown
namespace Go.Proofs.Ythaoifccdheldaa
open Go.RowKit
set_option linter.unusedVariables false

theorem u16_wf {n : Int} (h : (Lit.int .u16 n).wf = true) : 0 ≤ n ∧ n < 65536 := by
  have h2 : IntKind.u16.min ≤ n ∧ n ≤ IntKind.u16.max := by simpa [Lit.wf] using h
  have h3 : 0 ≤ n := h2.1
  have h4 : n ≤ 65535 := h2.2
  omega

theorem inV_at {lo n m : Int} (hn : 0 ≤ n ∧ n < 65536) (hm : 0 ≤ m ∧ m < 65536) : inV (wrap64 (lo + n)) lo (wrap64 (lo + m)) = decide (n < m) := by
  have h1 := wrap64_mod (lo + n)
  have h2 := wrap64_mod (lo + m)
  generalize wrap64 (lo + n) = x at *
  generalize wrap64 (lo + m) = y at *
  have e1 : (x - lo) % 18446744073709551616 = n := by omega
  have e2 : (y - lo) % 18446744073709551616 = m := by omega
  unfold inV; rw [e1, e2]
theorem inV_by {lo n m b : Int} (hn : 0 ≤ n ∧ n < 65536) (hm : 0 ≤ m ∧ m < 65536) : inV (wrap64 (wrap64 (lo + n) + b)) (wrap64 (lo + b)) (wrap64 (wrap64 (lo + m) + b)) = decide (n < m) := by
  have h1 := wrap64_mod (lo + n)
  have h2 := wrap64_mod (lo + m)
  have h3 := wrap64_mod (wrap64 (lo + n) + b)
  have h4 := wrap64_mod (wrap64 (lo + m) + b)
  have h5 := wrap64_mod (lo + b)
  generalize wrap64 (lo + b) = l at *
  generalize wrap64 (wrap64 (lo + n) + b) = x2 at *
  generalize wrap64 (wrap64 (lo + m) + b) = y2 at *
  generalize wrap64 (lo + n) = x at *
  generalize wrap64 (lo + m) = y at *
  have e1 : (x2 - l) % 18446744073709551616 = n := by omega
  have e2 : (y2 - l) % 18446744073709551616 = m := by omega
  unfold inV; rw [e1, e2]
theorem inV_none (x lo : Int) : inV x lo lo = false := by
  unfold inV; rw [Int.sub_self]; have := Int.emod_nonneg (x - lo) (b := 18446744073709551616) (by decide)
  rw [decide_eq_false_iff_not]; omega

set_option maxHeartbeats 800000 in
theorem aluWithin_lt (lo n m b : Int) (hn : 0 ≤ n ∧ n < 65536) (hm : 0 ≤ m ∧ m < 65536) (hc : n < m) (w : World) :
    Calls Try.prog 9 #[.agg #[.int .i64 lo, .int .u16 n, .int .u16 m, .int .i64 b]] w (Yes w) := by
  have e : decide (n < m) = true := by simpa using hc
  have h0 := Lib.hid shown_all
  have h1 := Lib.hid (fun w => within_any (wrap64 (lo + n)) lo (wrap64 (lo + m)) w)
  have h2 := Lib.hid (fun w => within_any (wrap64 (wrap64 (lo + n) + b)) (wrap64 (lo + b)) (wrap64 (wrap64 (lo + m) + b)) w)
  have h3 := Lib.hid (fun w => within_any (wrap64 (lo + n)) lo lo w)
  rw [inV_at hn hm, e] at h1
  rw [inV_by hn hm, e] at h2
  rw [inV_none] at h3
  clear e
  obtain ⟨n0, n1⟩ := hn
  obtain ⟨m0, m1⟩ := hm
  go_enter Try.func9, Try.ntmps9
  go_wp2_with fail
  refine (h0.out _).mono ?_
  rintro e w' ⟨rfl, rfl⟩
  go_wp2_with fail
  refine (h1.out _).mono ?_
  rintro e w' ⟨rfl, rfl⟩
  go_wp2_with fail
  refine (h2.out _).mono ?_
  rintro e w' ⟨rfl, rfl⟩
  go_wp2_with fail
  refine (h3.out _).mono ?_
  rintro e w' ⟨rfl, rfl⟩
  go_wp2
  go_ret
  exact ⟨ret_b (by first | rfl | (simp; exact hc)), (Below.refl _ w).alloc (Nat.le_refl _) _⟩

set_option maxHeartbeats 800000 in
theorem aluWithin_ge (lo n m b : Int) (hn : 0 ≤ n ∧ n < 65536) (hm : 0 ≤ m ∧ m < 65536) (hc : m ≤ n) (w : World) :
    Calls Try.prog 9 #[.agg #[.int .i64 lo, .int .u16 n, .int .u16 m, .int .i64 b]] w (Yes w) := by
  have e : decide (n < m) = false := by simpa using hc
  have h0 := Lib.hid shown_all
  have h1 := Lib.hid (fun w => within_any (wrap64 (lo + n)) lo (wrap64 (lo + m)) w)
  have h2 := Lib.hid (fun w => within_any (wrap64 (wrap64 (lo + n) + b)) (wrap64 (lo + b)) (wrap64 (wrap64 (lo + m) + b)) w)
  have h3 := Lib.hid (fun w => within_any (wrap64 (lo + n)) lo lo w)
  rw [inV_at hn hm, e] at h1
  rw [inV_by hn hm, e] at h2
  rw [inV_none] at h3
  clear e
  obtain ⟨n0, n1⟩ := hn
  obtain ⟨m0, m1⟩ := hm
  go_enter Try.func9, Try.ntmps9
  go_wp2_with fail
  refine (h0.out _).mono ?_
  rintro e w' ⟨rfl, rfl⟩
  go_wp2_with fail
  refine (h1.out _).mono ?_
  rintro e w' ⟨rfl, rfl⟩
  go_wp2_with fail
  refine (h2.out _).mono ?_
  rintro e w' ⟨rfl, rfl⟩
  go_wp2_with fail
  refine (h3.out _).mono ?_
  rintro e w' ⟨rfl, rfl⟩
  go_wp2
  go_ret
  exact ⟨ret_b (by first | rfl | (simp; exact hc)), (Below.refl _ w).alloc (Nat.le_refl _) _⟩

theorem aluWithin_walk (lo n m b : Int) (h1 : (Lit.int .i64 lo).wf = true) (h2 : (Lit.int .u16 n).wf = true) (h3 : (Lit.int .u16 m).wf = true) (h4 : (Lit.int .i64 b).wf = true) (w : World) :
    Calls Try.prog 9 #[.agg #[.int .i64 lo, .int .u16 n, .int .u16 m, .int .i64 b]] w (Yes w) := by
  by_cases h : n < m
  · exact aluWithin_lt lo n m b (u16_wf h2) (u16_wf h3) h w
  · exact aluWithin_ge lo n m b (u16_wf h2) (u16_wf h3) (by omega) w
end Go.Proofs.Ythaoifccdheldaa
