/- The walks of the document's One: what it hands back, by the words' names. -/
import Derived.Test.YthaoifccdheldaaBit
namespace Go.Proofs.Ythaoifccdheldaa
open Go.RowKit
set_option linter.unusedVariables false

theorem rone_lift {s : ByteArray} {a v x : Int} {p q : Bool} {w : World} (h : Calls Try.prog 14 #[.string s, .int .i64 a] w fun e w' => e = .returned (.tuple #[.int .i64 v, .bool p]) ∧ w = w') (h1 : v = x) (h2 : p = q) : Calls Try.prog 14 #[.string s, .int .i64 a] w fun e w' => e = .returned (.tuple #[.int .i64 x, .bool q]) ∧ w = w' := by subst h1; subst h2; exact h
set_option maxHeartbeats 400000 in
theorem rone_NEG (a : Int) (w : World) (hin : In64 a) :
    Calls Try.prog 14 #[.string ⟨#[78, 69, 71, 65, 84, 69]⟩, .int .i64 a] w fun e w' => e = .returned (.tuple #[.int .i64 (wrap64 (-a)), .bool true]) ∧ w = w' := by
  obtain ⟨h1, h2⟩ := hin
  go_enter Try.func14, Try.ntmps14
  go_wp2
  go_ret2
  exact ⟨ret_ib (by first | rfl | (congr 1; omega)) rfl, rfl⟩

set_option maxHeartbeats 400000 in
theorem rone_ABS (a : Int) (w : World) (hin : In64 a) :
    Calls Try.prog 14 #[.string ⟨#[65, 66, 83]⟩, .int .i64 a] w fun e w' => e = .returned (.tuple #[.int .i64 (vAbs a), .bool true]) ∧ w = w' := by
  obtain ⟨h1, h2⟩ := hin
  by_cases hc : 0 ≤ a
  · have hv : vAbs a = a := if_pos hc
    have H := Lib.hid hv; clear hv
    go_enter Try.func14, Try.ntmps14
    go_wp2
    go_ret2
    exact ⟨ret_ib H.out.symm rfl, rfl⟩
  · have hv : vAbs a = wrap64 (-a) := if_neg hc
    have H := Lib.hid hv; clear hv
    have hlt : a < 0 := by omega
    clear hc
    go_enter Try.func14, Try.ntmps14
    go_wp2
    go_ret2
    exact ⟨ret_ib (by rw [H.out]) rfl, rfl⟩

set_option maxHeartbeats 400000 in
theorem rone_INV (a : Int) (w : World) (hin : In64 a) :
    Calls Try.prog 14 #[.string ⟨#[73, 78, 86, 69, 82, 84]⟩, .int .i64 a] w fun e w' => e = .returned (.tuple #[.int .i64 (vInv a), .bool true]) ∧ w = w' := by
  obtain ⟨h1, h2⟩ := hin
  go_enter Try.func14, Try.ntmps14
  go_wp2
  go_ret2
  exact ⟨ret_ib (by rw [vInv_eq ⟨h1, h2⟩]) rfl, rfl⟩

set_option maxHeartbeats 400000 in
theorem rone_INC (a : Int) (w : World) (hin : In64 a) :
    Calls Try.prog 14 #[.string ⟨#[49, 43]⟩, .int .i64 a] w fun e w' => e = .returned (.tuple #[.int .i64 (wrap64 (a + 1)), .bool true]) ∧ w = w' := by
  obtain ⟨h1, h2⟩ := hin
  go_enter Try.func14, Try.ntmps14
  go_wp2
  go_ret2
  exact ⟨ret_ib (rfl) rfl, rfl⟩

set_option maxHeartbeats 400000 in
theorem rone_DEC (a : Int) (w : World) (hin : In64 a) :
    Calls Try.prog 14 #[.string ⟨#[49, 45]⟩, .int .i64 a] w fun e w' => e = .returned (.tuple #[.int .i64 (wrap64 (a - 1)), .bool true]) ∧ w = w' := by
  obtain ⟨h1, h2⟩ := hin
  go_enter Try.func14, Try.ntmps14
  go_wp2
  go_ret2
  exact ⟨ret_ib (rfl) rfl, rfl⟩

set_option maxHeartbeats 400000 in
theorem rone_DBL (a : Int) (w : World) (hin : In64 a) :
    Calls Try.prog 14 #[.string ⟨#[50, 42]⟩, .int .i64 a] w fun e w' => e = .returned (.tuple #[.int .i64 (wrap64 (a * 2)), .bool true]) ∧ w = w' := by
  obtain ⟨h1, h2⟩ := hin
  go_enter Try.func14, Try.ntmps14
  go_wp2
  go_ret2
  exact ⟨ret_ib (by first | rfl | (congr 1; omega)) rfl, rfl⟩

set_option maxHeartbeats 400000 in
theorem rone_HLF (a : Int) (w : World) (hin : In64 a) :
    Calls Try.prog 14 #[.string ⟨#[50, 47]⟩, .int .i64 a] w fun e w' => e = .returned (.tuple #[.int .i64 (a / 2), .bool true]) ∧ w = w' := by
  obtain ⟨h1, h2⟩ := hin
  have hq := (by first | exact rdiv_2 a ⟨h1, h2⟩ : ∀ w, Calls Try.prog 25 #[.int .i64 a, .int .i64 2] w fun e w' => e = .returned (.tuple #[.int .i64 (a / 2), .int .i64 (a % 2), .int .i64 0]) ∧ w = w')
  have HQ := Lib.hid hq; clear hq
  go_enter Try.func14, Try.ntmps14
  go_wp2_with fail
  refine (HQ.out _).mono ?_
  rintro e w' ⟨rfl, rfl⟩
  go_wp2_with fail
  go_ret2
  exact ⟨rfl, rfl⟩

set_option maxHeartbeats 400000 in
theorem rone_EQZ (a : Int) (w : World) (hin : In64 a) :
    Calls Try.prog 14 #[.string ⟨#[48, 61]⟩, .int .i64 a] w fun e w' => e = .returned (.tuple #[.int .i64 (flg (decide (a = 0))), .bool true]) ∧ w = w' := by
  obtain ⟨h1, h2⟩ := hin
  by_cases hc : a = 0
  · have hv : flg (decide (a = 0)) = -1 := flg_t (by simpa using hc)
    have H := Lib.hid hv; clear hv
    have hb := beq_t hc; clear hc
    go_enter Try.func14, Try.ntmps14
    go_wp2
    go_ret2
    exact ⟨ret_ib H.out.symm rfl, rfl⟩
  · have hv : flg (decide (a = 0)) = 0 := flg_f (by simpa using hc)
    have H := Lib.hid hv; clear hv
    have hb := beq_f hc; clear hc
    go_enter Try.func14, Try.ntmps14
    go_wp2
    go_ret2
    exact ⟨ret_ib H.out.symm rfl, rfl⟩

set_option maxHeartbeats 400000 in
theorem rone_LTZ (a : Int) (w : World) (hin : In64 a) :
    Calls Try.prog 14 #[.string ⟨#[48, 60]⟩, .int .i64 a] w fun e w' => e = .returned (.tuple #[.int .i64 (flg (decide (a < 0))), .bool true]) ∧ w = w' := by
  obtain ⟨h1, h2⟩ := hin
  by_cases hc : a < 0
  · have hv : flg (decide (a < 0)) = -1 := flg_t (by simpa using hc)
    have H := Lib.hid hv; clear hv
    go_enter Try.func14, Try.ntmps14
    go_wp2
    go_ret2
    exact ⟨ret_ib H.out.symm rfl, rfl⟩
  · have hv : flg (decide (a < 0)) = 0 := flg_f (by simpa using hc)
    have H := Lib.hid hv; clear hv
    go_enter Try.func14, Try.ntmps14
    go_wp2
    go_ret2
    exact ⟨ret_ib H.out.symm rfl, rfl⟩

set_option maxHeartbeats 400000 in
theorem rone_NEZ (a : Int) (w : World) (hin : In64 a) :
    Calls Try.prog 14 #[.string ⟨#[48, 60, 62]⟩, .int .i64 a] w fun e w' => e = .returned (.tuple #[.int .i64 (flg (decide (a ≠ 0))), .bool true]) ∧ w = w' := by
  obtain ⟨h1, h2⟩ := hin
  by_cases hc : a = 0
  · have hv : flg (decide (a ≠ 0)) = 0 := flg_f (by simpa using hc)
    have H := Lib.hid hv; clear hv
    have hb := bne_f hc; clear hc
    go_enter Try.func14, Try.ntmps14
    go_wp2
    go_ret2
    exact ⟨ret_ib H.out.symm rfl, rfl⟩
  · have hv : flg (decide (a ≠ 0)) = -1 := flg_t (by simpa using hc)
    have H := Lib.hid hv; clear hv
    have hb := bne_t hc; clear hc
    go_enter Try.func14, Try.ntmps14
    go_wp2
    go_ret2
    exact ⟨ret_ib H.out.symm rfl, rfl⟩

set_option maxHeartbeats 400000 in
theorem rone_GTZ (a : Int) (w : World) (hin : In64 a) :
    Calls Try.prog 14 #[.string ⟨#[48, 62]⟩, .int .i64 a] w fun e w' => e = .returned (.tuple #[.int .i64 (flg (decide (0 < a))), .bool true]) ∧ w = w' := by
  obtain ⟨h1, h2⟩ := hin
  by_cases hc : 0 < a
  · have hv : flg (decide (0 < a)) = -1 := flg_t (by simpa using hc)
    have H := Lib.hid hv; clear hv
    go_enter Try.func14, Try.ntmps14
    go_wp2
    go_ret2
    exact ⟨ret_ib H.out.symm rfl, rfl⟩
  · have hv : flg (decide (0 < a)) = 0 := flg_f (by simpa using hc)
    have H := Lib.hid hv; clear hv
    go_enter Try.func14, Try.ntmps14
    go_wp2
    go_ret2
    exact ⟨ret_ib H.out.symm rfl, rfl⟩

set_option maxHeartbeats 400000 in
theorem rone_CELLS (a : Int) (w : World) (hin : In64 a) :
    Calls Try.prog 14 #[.string ⟨#[67, 69, 76, 76, 83]⟩, .int .i64 a] w fun e w' => e = .returned (.tuple #[.int .i64 (wrap64 (a * 8)), .bool true]) ∧ w = w' := by
  obtain ⟨h1, h2⟩ := hin
  go_enter Try.func14, Try.ntmps14
  go_wp2
  go_ret2
  exact ⟨ret_ib (by first | rfl | (congr 1; omega)) rfl, rfl⟩

set_option maxHeartbeats 400000 in
theorem rone_CELLP (a : Int) (w : World) (hin : In64 a) :
    Calls Try.prog 14 #[.string ⟨#[67, 69, 76, 76, 43]⟩, .int .i64 a] w fun e w' => e = .returned (.tuple #[.int .i64 (wrap64 (a + 8)), .bool true]) ∧ w = w' := by
  obtain ⟨h1, h2⟩ := hin
  go_enter Try.func14, Try.ntmps14
  go_wp2
  go_ret2
  exact ⟨ret_ib (rfl) rfl, rfl⟩

set_option maxHeartbeats 400000 in
theorem rone_ALN (a : Int) (w : World) (hin : In64 a) :
    Calls Try.prog 14 #[.string ⟨#[65, 76, 73, 71, 78, 69, 68]⟩, .int .i64 a] w fun e w' => e = .returned (.tuple #[.int .i64 (vAl a), .bool true]) ∧ w = w' := by
  obtain ⟨h1, h2⟩ := hin
  have hq := (by first | exact rdiv_8 a ⟨h1, h2⟩ : ∀ w, Calls Try.prog 25 #[.int .i64 a, .int .i64 8] w fun e w' => e = .returned (.tuple #[.int .i64 (a / 8), .int .i64 (a % 8), .int .i64 0]) ∧ w = w')
  have HQ := Lib.hid hq; clear hq
  by_cases hc : a % 8 = 0
  · have hv : vAl a = a := vAl_yes ⟨h1, h2⟩ hc
    have hb := beq_t hc
    have H := Lib.hid hv; clear hv hc
    go_enter Try.func14, Try.ntmps14
    go_wp2_with fail
    refine (HQ.out _).mono ?_
    rintro e w' ⟨rfl, rfl⟩
    go_wp2_with fail
    go_ret2
    exact ⟨ret_ib H.out.symm rfl, rfl⟩
  · have hv : vAl a = wrap64 (wrap64 (a - a % 8) + 8) := vAl_no ⟨h1, h2⟩ hc
    have hb := beq_f hc
    have H := Lib.hid hv; clear hv hc
    have hr1 : 0 ≤ a % 8 := by omega
    have hr2 : a % 8 ≤ 7 := by omega
    go_enter Try.func14, Try.ntmps14
    go_wp2_with fail
    refine (HQ.out _).mono ?_
    rintro e w' ⟨rfl, rfl⟩
    go_wp2_with fail
    go_ret2
    exact ⟨ret_ib (by rw [H.out]; first | rfl | exact wrap64_congr (by have := wrap64_mod (a - a % 8); omega)) rfl, rfl⟩

set_option maxHeartbeats 800000 in
theorem rone_other (s : ByteArray) (a : Int) (w : World) (hin : In64 a) (n0 : s ≠ ⟨#[78, 69, 71, 65, 84, 69]⟩) (n1 : s ≠ ⟨#[65, 66, 83]⟩) (n2 : s ≠ ⟨#[73, 78, 86, 69, 82, 84]⟩) (n3 : s ≠ ⟨#[49, 43]⟩) (n4 : s ≠ ⟨#[49, 45]⟩) (n5 : s ≠ ⟨#[50, 42]⟩) (n6 : s ≠ ⟨#[50, 47]⟩) (n7 : s ≠ ⟨#[48, 61]⟩) (n8 : s ≠ ⟨#[48, 60]⟩) (n9 : s ≠ ⟨#[48, 60, 62]⟩) (n10 : s ≠ ⟨#[48, 62]⟩) (n11 : s ≠ ⟨#[67, 69, 76, 76, 83]⟩) (n12 : s ≠ ⟨#[67, 69, 76, 76, 43]⟩) (n13 : s ≠ ⟨#[65, 76, 73, 71, 78, 69, 68]⟩) :
    Calls Try.prog 14 #[.string s, .int .i64 a] w fun e w' => e = .returned (.tuple #[.int .i64 0, .bool false]) ∧ w = w' := by
  obtain ⟨h1, h2⟩ := hin
  have m0 : (s.toList == [78, 69, 71, 65, 84, 69]) = false := str_ne n0
  have m1 : (s.toList == [65, 66, 83]) = false := str_ne n1
  have m2 : (s.toList == [73, 78, 86, 69, 82, 84]) = false := str_ne n2
  have m3 : (s.toList == [49, 43]) = false := str_ne n3
  have m4 : (s.toList == [49, 45]) = false := str_ne n4
  have m5 : (s.toList == [50, 42]) = false := str_ne n5
  have m6 : (s.toList == [50, 47]) = false := str_ne n6
  have m7 : (s.toList == [48, 61]) = false := str_ne n7
  have m8 : (s.toList == [48, 60]) = false := str_ne n8
  have m9 : (s.toList == [48, 60, 62]) = false := str_ne n9
  have m10 : (s.toList == [48, 62]) = false := str_ne n10
  have m11 : (s.toList == [67, 69, 76, 76, 83]) = false := str_ne n11
  have m12 : (s.toList == [67, 69, 76, 76, 43]) = false := str_ne n12
  have m13 : (s.toList == [65, 76, 73, 71, 78, 69, 68]) = false := str_ne n13
  clear n0 n1 n2 n3 n4 n5 n6 n7 n8 n9 n10 n11 n12 n13
  go_enter Try.func14, Try.ntmps14
  go_wp2
  go_ret2
  exact ⟨rfl, rfl⟩

theorem rone_any (s : ByteArray) (a : Int) (w : World) (hin : In64 a) :
    Calls Try.prog 14 #[.string s, .int .i64 a] w fun e w' => e = .returned (.tuple #[.int .i64 (oneV s a), .bool (oneB s)]) ∧ w = w' := by
  by_cases n0 : s = ⟨#[78, 69, 71, 65, 84, 69]⟩
  · subst n0; exact rone_lift (rone_NEG a w hin) rfl rfl
  by_cases n1 : s = ⟨#[65, 66, 83]⟩
  · subst n1; exact rone_lift (rone_ABS a w hin) rfl rfl
  by_cases n2 : s = ⟨#[73, 78, 86, 69, 82, 84]⟩
  · subst n2; exact rone_lift (rone_INV a w hin) rfl rfl
  by_cases n3 : s = ⟨#[49, 43]⟩
  · subst n3; exact rone_lift (rone_INC a w hin) rfl rfl
  by_cases n4 : s = ⟨#[49, 45]⟩
  · subst n4; exact rone_lift (rone_DEC a w hin) rfl rfl
  by_cases n5 : s = ⟨#[50, 42]⟩
  · subst n5; exact rone_lift (rone_DBL a w hin) rfl rfl
  by_cases n6 : s = ⟨#[50, 47]⟩
  · subst n6; exact rone_lift (rone_HLF a w hin) rfl rfl
  by_cases n7 : s = ⟨#[48, 61]⟩
  · subst n7; exact rone_lift (rone_EQZ a w hin) rfl rfl
  by_cases n8 : s = ⟨#[48, 60]⟩
  · subst n8; exact rone_lift (rone_LTZ a w hin) rfl rfl
  by_cases n9 : s = ⟨#[48, 60, 62]⟩
  · subst n9; exact rone_lift (rone_NEZ a w hin) rfl rfl
  by_cases n10 : s = ⟨#[48, 62]⟩
  · subst n10; exact rone_lift (rone_GTZ a w hin) rfl rfl
  by_cases n11 : s = ⟨#[67, 69, 76, 76, 83]⟩
  · subst n11; exact rone_lift (rone_CELLS a w hin) rfl rfl
  by_cases n12 : s = ⟨#[67, 69, 76, 76, 43]⟩
  · subst n12; exact rone_lift (rone_CELLP a w hin) rfl rfl
  by_cases n13 : s = ⟨#[65, 76, 73, 71, 78, 69, 68]⟩
  · subst n13; exact rone_lift (rone_ALN a w hin) rfl rfl
  have e1 : oneV s a = 0 := by unfold oneV; rw [if_neg n0, if_neg n1, if_neg n2, if_neg n3, if_neg n4, if_neg n5, if_neg n6, if_neg n7, if_neg n8, if_neg n9, if_neg n10, if_neg n11, if_neg n12, if_neg n13]
  have e2 : oneB s = false := by unfold oneB; rw [if_neg n0, if_neg n1, if_neg n2, if_neg n3, if_neg n4, if_neg n5, if_neg n6, if_neg n7, if_neg n8, if_neg n9, if_neg n10, if_neg n11, if_neg n12, if_neg n13]
  exact rone_lift (rone_other s a w hin n0 n1 n2 n3 n4 n5 n6 n7 n8 n9 n10 n11 n12 n13) e1.symm e2.symm
end Go.Proofs.Ythaoifccdheldaa
