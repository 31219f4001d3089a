/- The walks of the law's own helpers, of Within and Step in both texts, and of the examples at the head of each law. -/
import Derived.Test.YthaoifccdheldaaTwo
import Derived.Test.YthaoifccdheldaaRTwo
import Derived.Test.YthaoifccdheldaaOne
import Derived.Test.YthaoifccdheldaaROne
import Derived.Lib.SmallJoins
namespace Go.Proofs.Ythaoifccdheldaa
open Go.RowKit
set_option linter.unusedVariables false

/-- What each law shows. -/
def Yes (w : World) (e : Ending) (w' : World) : Prop := e = .returned (.bool true) ∧ Below w.heap.size w w'

theorem wone {s : ByteArray} {a v : Int} {b : Bool} (h : ∀ w, Calls Try.prog 13 #[.string s, .int .i64 a] w fun e w' => e = .returned (.tuple #[.int .i64 v, .bool b]) ∧ w = w') (w : World) :
    Calls Try.prog 22 #[.string s, .int .i64 a] w fun e w' => e = .returned (.int .i64 v) ∧ w = w' := by
  have H := Lib.hid h; clear h
  go_enter Try.func22, Try.ntmps22
  go_wp2_with (go_at_call 13; refine (H.out _).mono ?_; rintro e w' ⟨rfl, rfl⟩)
  go_ret
  exact ⟨rfl, rfl⟩
theorem wtwo {s : ByteArray} {a b v f : Int} {p : Bool} (h : ∀ w, Calls Try.prog 16 #[.string s, .int .i64 a, .int .i64 b] w fun e w' => e = .returned (.tuple #[.int .i64 v, .bool p, .int .i64 f]) ∧ w = w') (w : World) :
    Calls Try.prog 23 #[.string s, .int .i64 a, .int .i64 b] w fun e w' => e = .returned (.int .i64 v) ∧ w = w' := by
  have H := Lib.hid h; clear h
  go_enter Try.func23, Try.ntmps23
  go_wp2_with (go_at_call 16; refine (H.out _).mono ?_; rintro e w' ⟨rfl, rfl⟩)
  go_ret
  exact ⟨rfl, rfl⟩

theorem ret_b {p q : Bool} (h : p = q) : Ending.returned (.bool p) = .returned (.bool q) := by rw [h]
theorem uless (a b : Int) (w : World) : Calls Try.prog 31 #[.int .i64 a, .int .i64 b] w fun e w' => e = .returned (.bool (decide (IntKind.u64.wrap a < IntKind.u64.wrap b))) ∧ w = w' := by
  go_enter Try.func31, Try.ntmps31
  go_wp2
  go_ret
  exact ⟨rfl, rfl⟩

/-- is x within, from lo up to hi? -/
def inV (x lo hi : Int) : Bool := decide ((x - lo) % 18446744073709551616 < (hi - lo) % 18446744073709551616)
theorem within_any (x lo hi : Int) (w : World) : Calls Try.prog 20 #[.int .i64 x, .int .i64 lo, .int .i64 hi] w fun e w' => e = .returned (.bool (inV x lo hi)) ∧ w = w' := by
  have hv : decide (IntKind.u64.wrap (wrap64 (x - lo)) < IntKind.u64.wrap (wrap64 (hi - lo))) = inV x lo hi := by
    unfold inV; rw [wrapU, wrapU, wrap64_mod, wrap64_mod]
  have H := Lib.hid hv; clear hv
  go_enter Try.func20, Try.ntmps20
  go_wp2_with (go_at_call 31; refine (uless _ _ _).mono ?_; rintro e w' ⟨rfl, rfl⟩)
  go_ret
  exact ⟨ret_b H.out, rfl⟩
theorem rwithin_any (x lo hi : Int) (w : World) : Calls Try.prog 21 #[.int .i64 x, .int .i64 lo, .int .i64 hi] w fun e w' => e = .returned (.bool (inV x lo hi)) ∧ w = w' := by
  have hv : decide (IntKind.u64.wrap (IntKind.u64.wrap x - IntKind.u64.wrap lo) < IntKind.u64.wrap (IntKind.u64.wrap hi - IntKind.u64.wrap lo)) = inV x lo hi := by
    unfold inV; simp only [wrapU]; rw [← Int.sub_emod, ← Int.sub_emod]
  have H := Lib.hid hv; clear hv
  go_enter Try.func21, Try.ntmps21
  go_wp2
  go_ret
  exact ⟨ret_b H.out, rfl⟩

/-- does a loop's step cross its limit? -/
def stB (x lim d : Int) : Bool := if 0 ≤ d then decide (wrap64 (x - lim) < 0) && decide (0 ≤ wrap64 (wrap64 (x - lim) + d)) else decide (0 ≤ wrap64 (x - lim)) && decide (wrap64 (wrap64 (x - lim) + d) < 0)
set_option maxHeartbeats 400000 in
theorem step_any (x lim d : Int) (w : World) (hd : In64 d) : Calls Try.prog 18 #[.int .i64 x, .int .i64 lim, .int .i64 d] w fun e w' => e = .returned (.tuple #[.int .i64 (wrap64 (x + d)), .bool (stB x lim d)]) ∧ w = w' := by
  unfold stB
  obtain ⟨h1, h2⟩ := hd
  by_cases hp : 0 ≤ d
  · rw [if_pos hp]
    by_cases hs : wrap64 (x - lim) < 0
    · by_cases ht : wrap64 (wrap64 (x - lim) + d) < 0
      · have hv : (decide (wrap64 (x - lim) < 0) && decide (0 ≤ wrap64 (wrap64 (x - lim) + d))) = false := by simp; omega
        rw [hv]
        clear hv
        go_enter Try.func18, Try.ntmps18
        go_wp2
        go_ret2
        exact ⟨ret_ib rfl (by first | rfl | exact decide_eq_true ht | exact decide_eq_false (by omega)), rfl⟩
      · have hv : (decide (wrap64 (x - lim) < 0) && decide (0 ≤ wrap64 (wrap64 (x - lim) + d))) = true := by simp; omega
        rw [hv]
        clear hv
        have ht : 0 ≤ wrap64 (wrap64 (x - lim) + d) := by omega
        go_enter Try.func18, Try.ntmps18
        go_wp2
        go_ret2
        exact ⟨ret_ib rfl (by first | rfl | exact decide_eq_true ht | exact decide_eq_false (by omega)), rfl⟩
    · by_cases ht : wrap64 (wrap64 (x - lim) + d) < 0
      · have hv : (decide (wrap64 (x - lim) < 0) && decide (0 ≤ wrap64 (wrap64 (x - lim) + d))) = false := by simp; omega
        rw [hv]
        clear hv
        have hs : 0 ≤ wrap64 (x - lim) := by omega
        go_enter Try.func18, Try.ntmps18
        go_wp2
        go_ret2
        exact ⟨ret_ib rfl (by first | rfl | exact decide_eq_true ht | exact decide_eq_false (by omega)), rfl⟩
      · have hv : (decide (wrap64 (x - lim) < 0) && decide (0 ≤ wrap64 (wrap64 (x - lim) + d))) = false := by simp; omega
        rw [hv]
        clear hv
        have hs : 0 ≤ wrap64 (x - lim) := by omega
        have ht : 0 ≤ wrap64 (wrap64 (x - lim) + d) := by omega
        go_enter Try.func18, Try.ntmps18
        go_wp2
        go_ret2
        exact ⟨ret_ib rfl (by first | rfl | exact decide_eq_true ht | exact decide_eq_false (by omega)), rfl⟩
  · rw [if_neg hp]
    have hp : d < 0 := by omega
    by_cases hs : wrap64 (x - lim) < 0
    · by_cases ht : wrap64 (wrap64 (x - lim) + d) < 0
      · have hv : (decide (0 ≤ wrap64 (x - lim)) && decide (wrap64 (wrap64 (x - lim) + d) < 0)) = false := by simp; omega
        rw [hv]
        clear hv
        go_enter Try.func18, Try.ntmps18
        go_wp2
        go_ret2
        exact ⟨ret_ib rfl (by first | rfl | exact decide_eq_true ht | exact decide_eq_false (by omega)), rfl⟩
      · have hv : (decide (0 ≤ wrap64 (x - lim)) && decide (wrap64 (wrap64 (x - lim) + d) < 0)) = false := by simp; omega
        rw [hv]
        clear hv
        have ht : 0 ≤ wrap64 (wrap64 (x - lim) + d) := by omega
        go_enter Try.func18, Try.ntmps18
        go_wp2
        go_ret2
        exact ⟨ret_ib rfl (by first | rfl | exact decide_eq_true ht | exact decide_eq_false (by omega)), rfl⟩
    · by_cases ht : wrap64 (wrap64 (x - lim) + d) < 0
      · have hv : (decide (0 ≤ wrap64 (x - lim)) && decide (wrap64 (wrap64 (x - lim) + d) < 0)) = true := by simp; omega
        rw [hv]
        clear hv
        have hs : 0 ≤ wrap64 (x - lim) := by omega
        go_enter Try.func18, Try.ntmps18
        go_wp2
        go_ret2
        exact ⟨ret_ib rfl (by first | rfl | exact decide_eq_true ht | exact decide_eq_false (by omega)), rfl⟩
      · have hv : (decide (0 ≤ wrap64 (x - lim)) && decide (wrap64 (wrap64 (x - lim) + d) < 0)) = false := by simp; omega
        rw [hv]
        clear hv
        have hs : 0 ≤ wrap64 (x - lim) := by omega
        have ht : 0 ≤ wrap64 (wrap64 (x - lim) + d) := by omega
        go_enter Try.func18, Try.ntmps18
        go_wp2
        go_ret2
        exact ⟨ret_ib rfl (by first | rfl | exact decide_eq_true ht | exact decide_eq_false (by omega)), rfl⟩
set_option maxHeartbeats 400000 in
theorem rstep_any (x lim d : Int) (w : World) (hd : In64 d) : Calls Try.prog 19 #[.int .i64 x, .int .i64 lim, .int .i64 d] w fun e w' => e = .returned (.tuple #[.int .i64 (wrap64 (x + d)), .bool (stB x lim d)]) ∧ w = w' := by
  unfold stB
  obtain ⟨h1, h2⟩ := hd
  by_cases hp : 0 ≤ d
  · rw [if_pos hp]
    by_cases hs : wrap64 (x - lim) < 0
    · by_cases ht : wrap64 (wrap64 (x - lim) + d) < 0
      · have hv : (decide (wrap64 (x - lim) < 0) && decide (0 ≤ wrap64 (wrap64 (x - lim) + d))) = false := by simp; omega
        rw [hv]
        clear hv
        go_enter Try.func19, Try.ntmps19
        go_wp2
        go_ret2
        exact ⟨ret_ib rfl (by first | rfl | exact decide_eq_true ht | exact decide_eq_false (by omega)), rfl⟩
      · have hv : (decide (wrap64 (x - lim) < 0) && decide (0 ≤ wrap64 (wrap64 (x - lim) + d))) = true := by simp; omega
        rw [hv]
        clear hv
        have ht : 0 ≤ wrap64 (wrap64 (x - lim) + d) := by omega
        go_enter Try.func19, Try.ntmps19
        go_wp2
        go_ret2
        exact ⟨ret_ib rfl (by first | rfl | exact decide_eq_true ht | exact decide_eq_false (by omega)), rfl⟩
    · by_cases ht : wrap64 (wrap64 (x - lim) + d) < 0
      · have hv : (decide (wrap64 (x - lim) < 0) && decide (0 ≤ wrap64 (wrap64 (x - lim) + d))) = false := by simp; omega
        rw [hv]
        clear hv
        have hs : 0 ≤ wrap64 (x - lim) := by omega
        go_enter Try.func19, Try.ntmps19
        go_wp2
        go_ret2
        exact ⟨ret_ib rfl (by first | rfl | exact decide_eq_true ht | exact decide_eq_false (by omega)), rfl⟩
      · have hv : (decide (wrap64 (x - lim) < 0) && decide (0 ≤ wrap64 (wrap64 (x - lim) + d))) = false := by simp; omega
        rw [hv]
        clear hv
        have hs : 0 ≤ wrap64 (x - lim) := by omega
        have ht : 0 ≤ wrap64 (wrap64 (x - lim) + d) := by omega
        go_enter Try.func19, Try.ntmps19
        go_wp2
        go_ret2
        exact ⟨ret_ib rfl (by first | rfl | exact decide_eq_true ht | exact decide_eq_false (by omega)), rfl⟩
  · rw [if_neg hp]
    have hp : d < 0 := by omega
    by_cases hs : wrap64 (x - lim) < 0
    · by_cases ht : wrap64 (wrap64 (x - lim) + d) < 0
      · have hv : (decide (0 ≤ wrap64 (x - lim)) && decide (wrap64 (wrap64 (x - lim) + d) < 0)) = false := by simp; omega
        rw [hv]
        clear hv
        go_enter Try.func19, Try.ntmps19
        go_wp2
        go_ret2
        exact ⟨ret_ib rfl (by first | rfl | exact decide_eq_true ht | exact decide_eq_false (by omega)), rfl⟩
      · have hv : (decide (0 ≤ wrap64 (x - lim)) && decide (wrap64 (wrap64 (x - lim) + d) < 0)) = false := by simp; omega
        rw [hv]
        clear hv
        have ht : 0 ≤ wrap64 (wrap64 (x - lim) + d) := by omega
        go_enter Try.func19, Try.ntmps19
        go_wp2
        go_ret2
        exact ⟨ret_ib rfl (by first | rfl | exact decide_eq_true ht | exact decide_eq_false (by omega)), rfl⟩
    · by_cases ht : wrap64 (wrap64 (x - lim) + d) < 0
      · have hv : (decide (0 ≤ wrap64 (x - lim)) && decide (wrap64 (wrap64 (x - lim) + d) < 0)) = true := by simp; omega
        rw [hv]
        clear hv
        have hs : 0 ≤ wrap64 (x - lim) := by omega
        go_enter Try.func19, Try.ntmps19
        go_wp2
        go_ret2
        exact ⟨ret_ib rfl (by first | rfl | exact decide_eq_true ht | exact decide_eq_false (by omega)), rfl⟩
      · have hv : (decide (0 ≤ wrap64 (x - lim)) && decide (wrap64 (wrap64 (x - lim) + d) < 0)) = false := by simp; omega
        rw [hv]
        clear hv
        have hs : 0 ≤ wrap64 (x - lim) := by omega
        have ht : 0 ≤ wrap64 (wrap64 (x - lim) + d) := by omega
        go_enter Try.func19, Try.ntmps19
        go_wp2
        go_ret2
        exact ⟨ret_ib rfl (by first | rfl | exact decide_eq_true ht | exact decide_eq_false (by omega)), rfl⟩
end Go.Proofs.Ythaoifccdheldaa
