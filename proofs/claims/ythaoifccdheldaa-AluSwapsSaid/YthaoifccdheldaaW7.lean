/- The walk of AluBits. -/
import Derived.Test.YthaoifccdheldaaNat
namespace Go.Proofs.Ythaoifccdheldaa
open Go.RowKit
set_option linter.unusedVariables false

theorem u8_wf {n : Int} (h : (Lit.int .u8 n).wf = true) : 0 ≤ n ∧ n < 256 := by
  have h2 : IntKind.u8.min ≤ n ∧ n ≤ IntKind.u8.max := by simpa [Lit.wf] using h
  have h3 : 0 ≤ n := h2.1
  have h4 : n ≤ 255 := h2.2
  omega
theorem low_int (a k : Int) (h0 : 0 ≤ k) (h : k < 64) : vShr (vShl a k) k = bits .and .i64 a (vShr (-1) k) := by
  have := low_bits a k.toNat (by omega)
  rwa [Int.toNat_of_nonneg h0] at this

set_option maxHeartbeats 1600000 in
theorem aluBits_in (a b y k : Int) (ha : In64 a) (hb : In64 b) (hy : 0 ≤ y ∧ y < 256) (hk0 : 0 ≤ k) (hk : k < 64) (hyk : y.tmod 64 = k) (w : World) : Calls Try.prog 7 #[.int .i64 a, .int .i64 b, .int .u8 y] w (Yes w) := by
  have rk : In64 k := ⟨by omega, by omega⟩
  have h0 := Lib.hid shown_all
  have c1 := Lib.hid (wtwo (fun w => two_SHL a k w ha rk))
  have c2 := Lib.hid (wtwo (fun w => two_SHR (vShl a k) k w (shl_range _ _) rk))
  have c3 := Lib.hid (wtwo (fun w => two_SHR (-1) k w ⟨by decide, by decide⟩ rk))
  have c4 := Lib.hid (wtwo (fun w => two_AND a b w ha hb))
  have c5 := Lib.hid (wtwo (fun w => two_OR a b w ha hb))
  have c6 := Lib.hid (wtwo (two_turn (fun w => two_ADD _ _ w (and_in a b) (or_in a b)) (and_or_sum a b) rfl rfl))
  have c7 := Lib.hid (wtwo (two_turn (fun w => two_SUB _ _ w (or_in a b) (and_in a b)) (or_less_and a b) rfl rfl))
  have c8 := Lib.hid (wtwo (fun w => two_XOR a b w ha hb))
  have c9 := Lib.hid (wtwo (two_turn (fun w => two_AND a _ w ha (shr_range (-1) k)) (low_int a k hk0 hk).symm rfl rfl))
  have c10 := Lib.hid (wtwo (two_turn (fun w => two_SHL a (64 + y) w ha ⟨by omega, by omega⟩) (vShl_out ⟨by omega, by omega⟩ (by omega)) rfl rfl))
  have c11 := Lib.hid (wtwo (two_turn (fun w => two_SHR a (-1 - y) w ha ⟨by omega, by omega⟩) (vShr_out ⟨by omega, by omega⟩ (by omega)) rfl rfl))
  clear ha hb rk
  generalize vShr (vShl a k) k = low at *
  generalize vShl a k = up at *
  generalize vShr (-1) k = mask at *
  generalize bits .and .i64 a b = x at *
  generalize bits .or .i64 a b = o at *
  generalize bits .xor .i64 a b = z at *
  obtain ⟨y0, y1⟩ := hy
  go_enter Try.func7, Try.ntmps7
  go_wp2_with fail
  refine (h0.out _).mono ?_
  rintro e w' ⟨rfl, rfl⟩
  go_wp2_with fail
  refine (c1.out _).mono ?_
  rintro e w' ⟨rfl, rfl⟩
  go_wp2_with fail
  refine (c2.out _).mono ?_
  rintro e w' ⟨rfl, rfl⟩
  go_wp2_with fail
  refine (c3.out _).mono ?_
  rintro e w' ⟨rfl, rfl⟩
  go_wp2_with fail
  refine (c4.out _).mono ?_
  rintro e w' ⟨rfl, rfl⟩
  go_wp2_with fail
  refine (c5.out _).mono ?_
  rintro e w' ⟨rfl, rfl⟩
  go_wp2_with fail
  refine (c6.out _).mono ?_
  rintro e w' ⟨rfl, rfl⟩
  go_wp2_with fail
  refine (c5.out _).mono ?_
  rintro e w' ⟨rfl, rfl⟩
  go_wp2_with fail
  refine (c4.out _).mono ?_
  rintro e w' ⟨rfl, rfl⟩
  go_wp2_with fail
  refine (c7.out _).mono ?_
  rintro e w' ⟨rfl, rfl⟩
  go_wp2_with fail
  refine (c8.out _).mono ?_
  rintro e w' ⟨rfl, rfl⟩
  go_wp2_with fail
  refine (c9.out _).mono ?_
  rintro e w' ⟨rfl, rfl⟩
  go_wp2_with fail
  refine (c10.out _).mono ?_
  rintro e w' ⟨rfl, rfl⟩
  go_wp2_with fail
  refine (c11.out _).mono ?_
  rintro e w' ⟨rfl, rfl⟩
  go_wp2
  go_ret
  exact ⟨rfl, Below.refl _ _⟩
theorem aluBits_walk (a b y : Int) (ha : (Lit.int .i64 a).wf = true) (hb : (Lit.int .i64 b).wf = true) (hy : (Lit.int .u8 y).wf = true) (w : World) : Calls Try.prog 7 #[.int .i64 a, .int .i64 b, .int .u8 y] w (Yes w) := by
  have h := u8_wf hy
  have h1 := Int.tmod_nonneg (a := y) 64 h.1
  have h2 := Int.tmod_lt_of_pos y (b := 64) (by decide)
  exact aluBits_in a b y _ (in64_wf ha) (in64_wf hb) h h1 h2 rfl w
end Go.Proofs.Ythaoifccdheldaa
