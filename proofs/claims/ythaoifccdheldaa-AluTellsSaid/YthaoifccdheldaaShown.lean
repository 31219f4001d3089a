/- The walk of the examples at the head of each law: all hold. -/
import Derived.Test.YthaoifccdheldaaWrap
namespace Go.Proofs.Ythaoifccdheldaa
open Go.RowKit
set_option linter.unusedVariables false

theorem one_turn {s : ByteArray} {a v x : Int} {p q : Bool} (h : ∀ w, Calls Try.prog 13 #[.string s, .int .i64 a] w fun e w' => e = .returned (.tuple #[.int .i64 v, .bool p]) ∧ w = w') (h1 : v = x) (h2 : p = q) (w : World) :
    Calls Try.prog 13 #[.string s, .int .i64 a] w fun e w' => e = .returned (.tuple #[.int .i64 x, .bool q]) ∧ w = w' := by subst h1; subst h2; exact h w
theorem two_turn {s : ByteArray} {a b v x f g : Int} {p q : Bool} (h : ∀ w, Calls Try.prog 16 #[.string s, .int .i64 a, .int .i64 b] w fun e w' => e = .returned (.tuple #[.int .i64 v, .bool p, .int .i64 f]) ∧ w = w') (h1 : v = x) (h2 : p = q) (h3 : f = g) (w : World) :
    Calls Try.prog 16 #[.string s, .int .i64 a, .int .i64 b] w fun e w' => e = .returned (.tuple #[.int .i64 x, .bool q, .int .i64 g]) ∧ w = w' := by subst h1; subst h2; subst h3; exact h w

theorem mod_1_0 (w : World) : Calls Try.prog 16 #[.string ⟨#[77, 79, 68]⟩, .int .i64 1, .int .i64 0] w fun e w' => e = .returned (.tuple #[.int .i64 0, .bool true, .int .i64 (-10)]) ∧ w = w' := by
  go_enter Try.func16, Try.ntmps16
  go_wp2_with (go_at_call 27; refine (div_zero 1 _).mono ?_; rintro e w' ⟨rfl, rfl⟩)
  go_ret3
  exact ⟨rfl, rfl⟩

theorem step_turn {a b c v x : Int} {p q : Bool} (h : ∀ w, Calls Try.prog 18 #[.int .i64 a, .int .i64 b, .int .i64 c] w fun e w' => e = .returned (.tuple #[.int .i64 v, .bool p]) ∧ w = w') (h1 : v = x) (h2 : p = q) (w : World) :
    Calls Try.prog 18 #[.int .i64 a, .int .i64 b, .int .i64 c] w fun e w' => e = .returned (.tuple #[.int .i64 x, .bool q]) ∧ w = w' := by subst h1; subst h2; exact h w
theorem within_turn {a b c : Int} {p q : Bool} (h : ∀ w, Calls Try.prog 20 #[.int .i64 a, .int .i64 b, .int .i64 c] w fun e w' => e = .returned (.bool p) ∧ w = w') (h2 : p = q) (w : World) :
    Calls Try.prog 20 #[.int .i64 a, .int .i64 b, .int .i64 c] w fun e w' => e = .returned (.bool q) ∧ w = w' := by subst h2; exact h w

set_option maxHeartbeats 1000000 in
theorem shown_all (w : World) : Calls Try.prog 11 #[] w fun e w' => e = .returned (.bool true) ∧ w = w' := by
  have h1 := Lib.hid (one_turn (x := -2) (fun w => one_HLF (-3) w ⟨by decide, by decide⟩) (by decide +kernel) rfl)
  have h2 := Lib.hid (one_turn (x := 16) (fun w => one_ALN 9 w ⟨by decide, by decide⟩) (by decide +kernel) rfl)
  have h3 := Lib.hid (two_turn (x := 1) (fun w => two_SHR (-1) 63 w ⟨by decide, by decide⟩ ⟨by decide, by decide⟩) (by decide +kernel) rfl rfl)
  have h4 := Lib.hid (step_turn (x := 10) (q := true) (fun w => step_any 9 10 1 w ⟨by decide, by decide⟩) (by decide +kernel) (by decide +kernel))
  have h5 := Lib.hid (one_turn (x := 0) (q := false) (fun w => one_any ⟨#[43]⟩ 1 w ⟨by decide, by decide⟩) rfl rfl)
  have h6 := Lib.hid mod_1_0
  have h7 := Lib.hid (within_turn (q := true) (fun w => within_any 5 5 6 w) (by decide +kernel))
  have h8 := Lib.hid (within_turn (q := false) (fun w => within_any 6 5 6 w) (by decide +kernel))
  go_enter Try.func11, Try.ntmps11
  go_wp2_with fail
  refine (h1.out _).mono ?_
  rintro e w' ⟨rfl, rfl⟩
  go_wp2_with fail
  refine (h2.out _).mono ?_
  rintro e w' ⟨rfl, rfl⟩
  go_wp2_with fail
  refine (h3.out _).mono ?_
  rintro e w' ⟨rfl, rfl⟩
  go_wp2_with fail
  refine (h4.out _).mono ?_
  rintro e w' ⟨rfl, rfl⟩
  go_wp2_with fail
  refine (h5.out _).mono ?_
  rintro e w' ⟨rfl, rfl⟩
  go_wp2_with fail
  refine (h6.out _).mono ?_
  rintro e w' ⟨rfl, rfl⟩
  go_wp2_with fail
  refine (h7.out _).mono ?_
  rintro e w' ⟨rfl, rfl⟩
  go_wp2_with fail
  refine (h8.out _).mono ?_
  rintro e w' ⟨rfl, rfl⟩
  go_wp2
  go_ret
  exact ⟨rfl, rfl⟩
theorem in64_wf {a : Int} (h : (Lit.int .i64 a).wf = true) : In64 a := by
  have h2 : IntKind.i64.min ≤ a ∧ a ≤ 9223372036854775807 := by simpa [Lit.wf] using h
  exact h2
end Go.Proofs.Ythaoifccdheldaa
