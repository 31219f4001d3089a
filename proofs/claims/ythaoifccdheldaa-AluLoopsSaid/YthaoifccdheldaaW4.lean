/- The walk of AluLoops. -/
import Derived.Test.YthaoifccdheldaaShown
namespace Go.Proofs.Ythaoifccdheldaa
open Go.RowKit
set_option linter.unusedVariables false

set_option maxHeartbeats 400000 in
theorem aluLoops_walk (x lo hi : Int) (hx : (Lit.int .i64 x).wf = true) (hl : (Lit.int .i64 lo).wf = true) (hh : (Lit.int .i64 hi).wf = true) (w : World) :
    Calls Try.prog 4 #[.int .i64 x, .int .i64 lo, .int .i64 hi] w (Yes w) := by
  have h0 := Lib.hid shown_all
  have h1 := Lib.hid (fun w => step_any x lo hi w (in64_wf hh))
  have h2 := Lib.hid (fun w => rstep_any x lo hi w (in64_wf hh))
  have h3 := Lib.hid (fun w => within_any x lo hi w)
  have h4 := Lib.hid (fun w => rwithin_any x lo hi w)
  clear hx hl hh
  generalize wrap64 (x + hi) = r at *
  generalize stB x lo hi = p at *
  generalize inV x lo hi = q at *
  go_enter Try.func4, Try.ntmps4
  go_wp2_with fail
  refine (h0.out _).mono ?_
  rintro e w' ⟨rfl, rfl⟩
  go_wp2_with fail
  refine (h1.out _).mono ?_
  rintro e w' ⟨rfl, rfl⟩
  go_wp2_with fail
  refine (h2.out _).mono ?_
  rintro e w' ⟨rfl, rfl⟩
  go_wp2_with fail
  refine (h3.out _).mono ?_
  rintro e w' ⟨rfl, rfl⟩
  go_wp2_with fail
  refine (h4.out _).mono ?_
  rintro e w' ⟨rfl, rfl⟩
  go_wp2
  go_ret
  exact ⟨rfl, Below.refl _ _⟩
end Go.Proofs.Ythaoifccdheldaa
