/- The walks of alu.Two: what it hands back, by the words' names. -/
import Derived.Test.YthaoifccdheldaaTVals
namespace Go.Proofs.Ythaoifccdheldaa
open Go.RowKit
set_option linter.unusedVariables false

theorem two_lift {s : ByteArray} {a b v x f g : Int} {p q : Bool} {w : World} (h : Calls Try.prog 16 #[.string s, .int .i64 a, .int .i64 b] w fun e w' => e = .returned (.tuple #[.int .i64 (v), .bool p, .int .i64 (f)]) ∧ ∃ n, w' = w.drewN n) (h1 : v = x) (h2 : p = q) (h3 : f = g) : Calls Try.prog 16 #[.string s, .int .i64 a, .int .i64 b] w fun e w' => e = .returned (.tuple #[.int .i64 (x), .bool q, .int .i64 (g)]) ∧ ∃ n, w' = w.drewN n := by subst h1; subst h2; subst h3; exact h
theorem two_plain {s : ByteArray} {a b v x f g : Int} {p q : Bool} {w : World} (h : Calls Try.prog 16 #[.string s, .int .i64 a, .int .i64 b] w fun e w' => e = .returned (.tuple #[.int .i64 (v), .bool p, .int .i64 (f)]) ∧ w = w') (h1 : v = x) (h2 : p = q) (h3 : f = g) : Calls Try.prog 16 #[.string s, .int .i64 a, .int .i64 b] w fun e w' => e = .returned (.tuple #[.int .i64 (x), .bool q, .int .i64 (g)]) ∧ ∃ n, w' = w.drewN n := by subst h1; subst h2; subst h3; exact h.mono fun e w' h => ⟨h.1, 0, h.2.symm⟩
set_option maxHeartbeats 400000 in
theorem two_DIV (a b : Int) (w : World) (ha : In64 a) (hb : In64 b) :
    Calls Try.prog 16 #[.string ⟨#[47]⟩, .int .i64 a, .int .i64 b] w fun e w' => e = .returned (.tuple #[.int .i64 (vQ a b), .bool true, .int .i64 (vE b)]) ∧ ∃ n, w' = w.drewN n := by
  have hd := fun w => div_any a b w ha hb
  have HD := Lib.hid hd; clear hd
  generalize hq : vQ a b = q at *
  generalize hr : vR a b = r at *
  generalize hf : vE b = f at *
  clear hq hr hf
  obtain ⟨h1, h2⟩ := ha
  obtain ⟨h3, h4⟩ := hb
  go_enter Try.func16, Try.ntmps16
  go_wp2_with fail
  refine (HD.out _).mono ?_
  rintro e w' ⟨rfl, n, rfl⟩
  go_wp2_with fail
  go_ret3
  exact ⟨rfl, n, rfl⟩

set_option maxHeartbeats 400000 in
theorem two_MOD (a b : Int) (w : World) (ha : In64 a) (hb : In64 b) :
    Calls Try.prog 16 #[.string ⟨#[77, 79, 68]⟩, .int .i64 a, .int .i64 b] w fun e w' => e = .returned (.tuple #[.int .i64 (vR a b), .bool true, .int .i64 (vE b)]) ∧ ∃ n, w' = w.drewN n := by
  have hd := fun w => div_any a b w ha hb
  have HD := Lib.hid hd; clear hd
  generalize hq : vQ a b = q at *
  generalize hr : vR a b = r at *
  generalize hf : vE b = f at *
  clear hq hr hf
  obtain ⟨h1, h2⟩ := ha
  obtain ⟨h3, h4⟩ := hb
  go_enter Try.func16, Try.ntmps16
  go_wp2_with fail
  refine (HD.out _).mono ?_
  rintro e w' ⟨rfl, n, rfl⟩
  go_wp2_with fail
  go_ret3
  exact ⟨rfl, n, rfl⟩

set_option maxHeartbeats 400000 in
theorem two_ADD (a b : Int) (w : World) (ha : In64 a) (hb : In64 b) :
    Calls Try.prog 16 #[.string ⟨#[43]⟩, .int .i64 a, .int .i64 b] w fun e w' => e = .returned (.tuple #[.int .i64 (wrap64 (a + b)), .bool true, .int .i64 (0)]) ∧ w = w' := by
  obtain ⟨h1, h2⟩ := ha
  obtain ⟨h3, h4⟩ := hb
  go_enter Try.func16, Try.ntmps16
  go_wp2
  go_ret3
  exact ⟨rfl, rfl⟩

set_option maxHeartbeats 400000 in
theorem two_SUB (a b : Int) (w : World) (ha : In64 a) (hb : In64 b) :
    Calls Try.prog 16 #[.string ⟨#[45]⟩, .int .i64 a, .int .i64 b] w fun e w' => e = .returned (.tuple #[.int .i64 (wrap64 (a - b)), .bool true, .int .i64 (0)]) ∧ w = w' := by
  obtain ⟨h1, h2⟩ := ha
  obtain ⟨h3, h4⟩ := hb
  go_enter Try.func16, Try.ntmps16
  go_wp2
  go_ret3
  exact ⟨rfl, rfl⟩

set_option maxHeartbeats 400000 in
theorem two_MUL (a b : Int) (w : World) (ha : In64 a) (hb : In64 b) :
    Calls Try.prog 16 #[.string ⟨#[42]⟩, .int .i64 a, .int .i64 b] w fun e w' => e = .returned (.tuple #[.int .i64 (wrap64 (a * b)), .bool true, .int .i64 (0)]) ∧ w = w' := by
  obtain ⟨h1, h2⟩ := ha
  obtain ⟨h3, h4⟩ := hb
  go_enter Try.func16, Try.ntmps16
  go_wp2
  go_ret3
  exact ⟨rfl, rfl⟩

set_option maxHeartbeats 400000 in
theorem two_AND (a b : Int) (w : World) (ha : In64 a) (hb : In64 b) :
    Calls Try.prog 16 #[.string ⟨#[65, 78, 68]⟩, .int .i64 a, .int .i64 b] w fun e w' => e = .returned (.tuple #[.int .i64 (bits .and .i64 a b), .bool true, .int .i64 (0)]) ∧ w = w' := by
  obtain ⟨h1, h2⟩ := ha
  obtain ⟨h3, h4⟩ := hb
  go_enter Try.func16, Try.ntmps16
  go_wp2
  go_ret3
  exact ⟨rfl, rfl⟩

set_option maxHeartbeats 400000 in
theorem two_OR (a b : Int) (w : World) (ha : In64 a) (hb : In64 b) :
    Calls Try.prog 16 #[.string ⟨#[79, 82]⟩, .int .i64 a, .int .i64 b] w fun e w' => e = .returned (.tuple #[.int .i64 (bits .or .i64 a b), .bool true, .int .i64 (0)]) ∧ w = w' := by
  obtain ⟨h1, h2⟩ := ha
  obtain ⟨h3, h4⟩ := hb
  go_enter Try.func16, Try.ntmps16
  go_wp2
  go_ret3
  exact ⟨rfl, rfl⟩

set_option maxHeartbeats 400000 in
theorem two_XOR (a b : Int) (w : World) (ha : In64 a) (hb : In64 b) :
    Calls Try.prog 16 #[.string ⟨#[88, 79, 82]⟩, .int .i64 a, .int .i64 b] w fun e w' => e = .returned (.tuple #[.int .i64 (bits .xor .i64 a b), .bool true, .int .i64 (0)]) ∧ w = w' := by
  obtain ⟨h1, h2⟩ := ha
  obtain ⟨h3, h4⟩ := hb
  go_enter Try.func16, Try.ntmps16
  go_wp2
  go_ret3
  exact ⟨rfl, rfl⟩

set_option maxHeartbeats 400000 in
theorem two_SHL (a b : Int) (w : World) (ha : In64 a) (hb : In64 b) :
    Calls Try.prog 16 #[.string ⟨#[76, 83, 72, 73, 70, 84]⟩, .int .i64 a, .int .i64 b] w fun e w' => e = .returned (.tuple #[.int .i64 (vShl a b), .bool true, .int .i64 (0)]) ∧ w = w' := by
  obtain ⟨h1, h2⟩ := ha
  obtain ⟨h3, h4⟩ := hb
  go_enter Try.func16, Try.ntmps16
  go_wp2
  go_ret3
  exact ⟨rfl, rfl⟩

set_option maxHeartbeats 400000 in
theorem two_SHR (a b : Int) (w : World) (ha : In64 a) (hb : In64 b) :
    Calls Try.prog 16 #[.string ⟨#[82, 83, 72, 73, 70, 84]⟩, .int .i64 a, .int .i64 b] w fun e w' => e = .returned (.tuple #[.int .i64 (vShr a b), .bool true, .int .i64 (0)]) ∧ w = w' := by
  obtain ⟨h1, h2⟩ := ha
  obtain ⟨h3, h4⟩ := hb
  go_enter Try.func16, Try.ntmps16
  go_wp2
  go_ret3
  exact ⟨rfl, rfl⟩

set_option maxHeartbeats 400000 in
theorem two_MIN (a b : Int) (w : World) (ha : In64 a) (hb : In64 b) :
    Calls Try.prog 16 #[.string ⟨#[77, 73, 78]⟩, .int .i64 a, .int .i64 b] w fun e w' => e = .returned (.tuple #[.int .i64 (vMin a b), .bool true, .int .i64 (0)]) ∧ w = w' := by
  obtain ⟨h1, h2⟩ := ha
  obtain ⟨h3, h4⟩ := hb
  by_cases hc : a < b
  · have hv : vMin a b = a := if_pos hc
    have H := Lib.hid hv; clear hv
    go_enter Try.func16, Try.ntmps16
    go_wp2
    go_ret3
    exact ⟨ret_ibi (H.out.symm) rfl rfl, rfl⟩
  · have hv : vMin a b = b := if_neg hc
    have H := Lib.hid hv
    have hn : b ≤ a := by omega
    clear hv hc
    by_cases he : b < a
    · go_enter Try.func16, Try.ntmps16
      go_wp2
      go_ret3
      exact ⟨ret_ibi (H.out.symm) rfl rfl, rfl⟩
    · have hee : a = b := by omega
      have hv2 : vMin a b = a := H.out.trans (by first | exact hee.symm | rfl)
      have H2 := Lib.hid hv2
      have hle : a ≤ b := by omega
      clear hv2 he
      have HE := Lib.hid hee; clear hee
      go_enter Try.func16, Try.ntmps16
      go_wp2
      go_ret3
      exact ⟨ret_ibi (by first | exact H.out.symm | exact H2.out.symm) rfl rfl, rfl⟩

set_option maxHeartbeats 400000 in
theorem two_MAX (a b : Int) (w : World) (ha : In64 a) (hb : In64 b) :
    Calls Try.prog 16 #[.string ⟨#[77, 65, 88]⟩, .int .i64 a, .int .i64 b] w fun e w' => e = .returned (.tuple #[.int .i64 (vMax a b), .bool true, .int .i64 (0)]) ∧ w = w' := by
  obtain ⟨h1, h2⟩ := ha
  obtain ⟨h3, h4⟩ := hb
  by_cases hc : a < b
  · have hv : vMax a b = b := if_pos hc
    have H := Lib.hid hv; clear hv
    go_enter Try.func16, Try.ntmps16
    go_wp2
    go_ret3
    exact ⟨ret_ibi (H.out.symm) rfl rfl, rfl⟩
  · have hv : vMax a b = a := if_neg hc
    have H := Lib.hid hv
    have hn : b ≤ a := by omega
    clear hv hc
    by_cases he : b < a
    · go_enter Try.func16, Try.ntmps16
      go_wp2
      go_ret3
      exact ⟨ret_ibi (H.out.symm) rfl rfl, rfl⟩
    · have hee : a = b := by omega
      have hv2 : vMax a b = a := H.out.trans (by first | exact hee.symm | rfl)
      have H2 := Lib.hid hv2
      have hle : a ≤ b := by omega
      clear hv2 he
      have HE := Lib.hid hee; clear hee
      go_enter Try.func16, Try.ntmps16
      go_wp2
      go_ret3
      exact ⟨ret_ibi (by first | exact H.out.symm | exact H2.out.symm) rfl rfl, rfl⟩

set_option maxHeartbeats 400000 in
theorem two_EQ (a b : Int) (w : World) (ha : In64 a) (hb : In64 b) :
    Calls Try.prog 16 #[.string ⟨#[61]⟩, .int .i64 a, .int .i64 b] w fun e w' => e = .returned (.tuple #[.int .i64 (flg (decide (a = b))), .bool true, .int .i64 (0)]) ∧ w = w' := by
  obtain ⟨h1, h2⟩ := ha
  obtain ⟨h3, h4⟩ := hb
  by_cases hc : a = b
  · have hv : flg (decide (a = b)) = -1 := flg_t (by simpa using hc)
    have H := Lib.hid hv; clear hv
    have hb := beq_t hc
    clear hc
    go_enter Try.func16, Try.ntmps16
    go_wp2
    go_ret3
    exact ⟨ret_ibi (H.out.symm) rfl rfl, rfl⟩
  · have hv : flg (decide (a = b)) = 0 := flg_f (by simpa using hc)
    have H := Lib.hid hv; clear hv
    have hb := beq_f hc
    clear hc
    go_enter Try.func16, Try.ntmps16
    go_wp2
    go_ret3
    exact ⟨ret_ibi (H.out.symm) rfl rfl, rfl⟩

set_option maxHeartbeats 400000 in
theorem two_NE (a b : Int) (w : World) (ha : In64 a) (hb : In64 b) :
    Calls Try.prog 16 #[.string ⟨#[60, 62]⟩, .int .i64 a, .int .i64 b] w fun e w' => e = .returned (.tuple #[.int .i64 (flg (decide (a ≠ b))), .bool true, .int .i64 (0)]) ∧ w = w' := by
  obtain ⟨h1, h2⟩ := ha
  obtain ⟨h3, h4⟩ := hb
  by_cases hc : a = b
  · have hv : flg (decide (a ≠ b)) = 0 := flg_f (by simpa using hc)
    have H := Lib.hid hv; clear hv
    have hb := bne_f hc
    clear hc
    go_enter Try.func16, Try.ntmps16
    go_wp2
    go_ret3
    exact ⟨ret_ibi (H.out.symm) rfl rfl, rfl⟩
  · have hv : flg (decide (a ≠ b)) = -1 := flg_t (by simpa using hc)
    have H := Lib.hid hv; clear hv
    have hb := bne_t hc
    clear hc
    go_enter Try.func16, Try.ntmps16
    go_wp2
    go_ret3
    exact ⟨ret_ibi (H.out.symm) rfl rfl, rfl⟩

set_option maxHeartbeats 400000 in
theorem two_LT (a b : Int) (w : World) (ha : In64 a) (hb : In64 b) :
    Calls Try.prog 16 #[.string ⟨#[60]⟩, .int .i64 a, .int .i64 b] w fun e w' => e = .returned (.tuple #[.int .i64 (flg (decide (a < b))), .bool true, .int .i64 (0)]) ∧ w = w' := by
  obtain ⟨h1, h2⟩ := ha
  obtain ⟨h3, h4⟩ := hb
  by_cases hc : a < b
  · have hv : flg (decide (a < b)) = -1 := flg_t hc
    have H := Lib.hid hv; clear hv
    go_enter Try.func16, Try.ntmps16
    go_wp2
    go_ret3
    exact ⟨ret_ibi (H.out.symm) rfl rfl, rfl⟩
  · have hv : flg (decide (a < b)) = 0 := flg_f hc
    have H := Lib.hid hv; clear hv
    have hn : b ≤ a := by omega
    clear hc
    go_enter Try.func16, Try.ntmps16
    go_wp2
    go_ret3
    exact ⟨ret_ibi (H.out.symm) rfl rfl, rfl⟩

set_option maxHeartbeats 400000 in
theorem two_GT (a b : Int) (w : World) (ha : In64 a) (hb : In64 b) :
    Calls Try.prog 16 #[.string ⟨#[62]⟩, .int .i64 a, .int .i64 b] w fun e w' => e = .returned (.tuple #[.int .i64 (flg (decide (b < a))), .bool true, .int .i64 (0)]) ∧ w = w' := by
  obtain ⟨h1, h2⟩ := ha
  obtain ⟨h3, h4⟩ := hb
  by_cases hc : b < a
  · have hv : flg (decide (b < a)) = -1 := flg_t hc
    have H := Lib.hid hv; clear hv
    go_enter Try.func16, Try.ntmps16
    go_wp2
    go_ret3
    exact ⟨ret_ibi (H.out.symm) rfl rfl, rfl⟩
  · have hv : flg (decide (b < a)) = 0 := flg_f hc
    have H := Lib.hid hv; clear hv
    have hn : a ≤ b := by omega
    clear hc
    go_enter Try.func16, Try.ntmps16
    go_wp2
    go_ret3
    exact ⟨ret_ibi (H.out.symm) rfl rfl, rfl⟩

set_option maxHeartbeats 400000 in
theorem two_LE (a b : Int) (w : World) (ha : In64 a) (hb : In64 b) :
    Calls Try.prog 16 #[.string ⟨#[60, 61]⟩, .int .i64 a, .int .i64 b] w fun e w' => e = .returned (.tuple #[.int .i64 (flg (decide (a ≤ b))), .bool true, .int .i64 (0)]) ∧ w = w' := by
  obtain ⟨h1, h2⟩ := ha
  obtain ⟨h3, h4⟩ := hb
  by_cases hc : a ≤ b
  · have hv : flg (decide (a ≤ b)) = -1 := flg_t hc
    have H := Lib.hid hv; clear hv
    go_enter Try.func16, Try.ntmps16
    go_wp2
    go_ret3
    exact ⟨ret_ibi (H.out.symm) rfl rfl, rfl⟩
  · have hv : flg (decide (a ≤ b)) = 0 := flg_f hc
    have H := Lib.hid hv; clear hv
    have hn : b < a := by omega
    clear hc
    go_enter Try.func16, Try.ntmps16
    go_wp2
    go_ret3
    exact ⟨ret_ibi (H.out.symm) rfl rfl, rfl⟩

set_option maxHeartbeats 400000 in
theorem two_GE (a b : Int) (w : World) (ha : In64 a) (hb : In64 b) :
    Calls Try.prog 16 #[.string ⟨#[62, 61]⟩, .int .i64 a, .int .i64 b] w fun e w' => e = .returned (.tuple #[.int .i64 (flg (decide (b ≤ a))), .bool true, .int .i64 (0)]) ∧ w = w' := by
  obtain ⟨h1, h2⟩ := ha
  obtain ⟨h3, h4⟩ := hb
  by_cases hc : b ≤ a
  · have hv : flg (decide (b ≤ a)) = -1 := flg_t hc
    have H := Lib.hid hv; clear hv
    go_enter Try.func16, Try.ntmps16
    go_wp2
    go_ret3
    exact ⟨ret_ibi (H.out.symm) rfl rfl, rfl⟩
  · have hv : flg (decide (b ≤ a)) = 0 := flg_f hc
    have H := Lib.hid hv; clear hv
    have hn : a < b := by omega
    clear hc
    go_enter Try.func16, Try.ntmps16
    go_wp2
    go_ret3
    exact ⟨ret_ibi (H.out.symm) rfl rfl, rfl⟩

set_option maxHeartbeats 400000 in
theorem two_ULT (a b : Int) (w : World) (ha : In64 a) (hb : In64 b) :
    Calls Try.prog 16 #[.string ⟨#[85, 60]⟩, .int .i64 a, .int .i64 b] w fun e w' => e = .returned (.tuple #[.int .i64 (flg (decide (IntKind.u64.wrap a < IntKind.u64.wrap b))), .bool true, .int .i64 (0)]) ∧ w = w' := by
  obtain ⟨h1, h2⟩ := ha
  obtain ⟨h3, h4⟩ := hb
  by_cases hc : IntKind.u64.wrap a < IntKind.u64.wrap b
  · have hv : flg (decide (IntKind.u64.wrap a < IntKind.u64.wrap b)) = -1 := flg_t hc
    have H := Lib.hid hv; clear hv
    go_enter Try.func16, Try.ntmps16
    go_wp2
    go_ret3
    exact ⟨ret_ibi (H.out.symm) rfl rfl, rfl⟩
  · have hv : flg (decide (IntKind.u64.wrap a < IntKind.u64.wrap b)) = 0 := flg_f hc
    have H := Lib.hid hv; clear hv
    have hn : IntKind.u64.wrap b ≤ IntKind.u64.wrap a := by omega
    clear hc
    go_enter Try.func16, Try.ntmps16
    go_wp2
    go_ret3
    exact ⟨ret_ibi (H.out.symm) rfl rfl, rfl⟩

set_option maxHeartbeats 400000 in
theorem two_UGT (a b : Int) (w : World) (ha : In64 a) (hb : In64 b) :
    Calls Try.prog 16 #[.string ⟨#[85, 62]⟩, .int .i64 a, .int .i64 b] w fun e w' => e = .returned (.tuple #[.int .i64 (flg (decide (IntKind.u64.wrap b < IntKind.u64.wrap a))), .bool true, .int .i64 (0)]) ∧ w = w' := by
  obtain ⟨h1, h2⟩ := ha
  obtain ⟨h3, h4⟩ := hb
  by_cases hc : IntKind.u64.wrap b < IntKind.u64.wrap a
  · have hv : flg (decide (IntKind.u64.wrap b < IntKind.u64.wrap a)) = -1 := flg_t hc
    have H := Lib.hid hv; clear hv
    go_enter Try.func16, Try.ntmps16
    go_wp2
    go_ret3
    exact ⟨ret_ibi (H.out.symm) rfl rfl, rfl⟩
  · have hv : flg (decide (IntKind.u64.wrap b < IntKind.u64.wrap a)) = 0 := flg_f hc
    have H := Lib.hid hv; clear hv
    have hn : IntKind.u64.wrap a ≤ IntKind.u64.wrap b := by omega
    clear hc
    go_enter Try.func16, Try.ntmps16
    go_wp2
    go_ret3
    exact ⟨ret_ibi (H.out.symm) rfl rfl, rfl⟩

set_option maxHeartbeats 1600000 in
theorem two_other (s : ByteArray) (a b : Int) (w : World) (ha : In64 a) (hb : In64 b) (n0 : s ≠ ⟨#[47]⟩) (n1 : s ≠ ⟨#[77, 79, 68]⟩) (n2 : s ≠ ⟨#[43]⟩) (n3 : s ≠ ⟨#[45]⟩) (n4 : s ≠ ⟨#[42]⟩) (n5 : s ≠ ⟨#[65, 78, 68]⟩) (n6 : s ≠ ⟨#[79, 82]⟩) (n7 : s ≠ ⟨#[88, 79, 82]⟩) (n8 : s ≠ ⟨#[76, 83, 72, 73, 70, 84]⟩) (n9 : s ≠ ⟨#[82, 83, 72, 73, 70, 84]⟩) (n10 : s ≠ ⟨#[77, 73, 78]⟩) (n11 : s ≠ ⟨#[77, 65, 88]⟩) (n12 : s ≠ ⟨#[61]⟩) (n13 : s ≠ ⟨#[60, 62]⟩) (n14 : s ≠ ⟨#[60]⟩) (n15 : s ≠ ⟨#[62]⟩) (n16 : s ≠ ⟨#[60, 61]⟩) (n17 : s ≠ ⟨#[62, 61]⟩) (n18 : s ≠ ⟨#[85, 60]⟩) (n19 : s ≠ ⟨#[85, 62]⟩) :
    Calls Try.prog 16 #[.string s, .int .i64 a, .int .i64 b] w fun e w' => e = .returned (.tuple #[.int .i64 (0), .bool false, .int .i64 (0)]) ∧ w = w' := by
  clear ha hb
  have m0 : (s.toList == [47]) = false := str_ne n0
  have m1 : (s.toList == [77, 79, 68]) = false := str_ne n1
  have m2 : (s.toList == [43]) = false := str_ne n2
  have m3 : (s.toList == [45]) = false := str_ne n3
  have m4 : (s.toList == [42]) = false := str_ne n4
  have m5 : (s.toList == [65, 78, 68]) = false := str_ne n5
  have m6 : (s.toList == [79, 82]) = false := str_ne n6
  have m7 : (s.toList == [88, 79, 82]) = false := str_ne n7
  have m8 : (s.toList == [76, 83, 72, 73, 70, 84]) = false := str_ne n8
  have m9 : (s.toList == [82, 83, 72, 73, 70, 84]) = false := str_ne n9
  have m10 : (s.toList == [77, 73, 78]) = false := str_ne n10
  have m11 : (s.toList == [77, 65, 88]) = false := str_ne n11
  have m12 : (s.toList == [61]) = false := str_ne n12
  have m13 : (s.toList == [60, 62]) = false := str_ne n13
  have m14 : (s.toList == [60]) = false := str_ne n14
  have m15 : (s.toList == [62]) = false := str_ne n15
  have m16 : (s.toList == [60, 61]) = false := str_ne n16
  have m17 : (s.toList == [62, 61]) = false := str_ne n17
  have m18 : (s.toList == [85, 60]) = false := str_ne n18
  have m19 : (s.toList == [85, 62]) = false := str_ne n19
  clear n0 n1 n2 n3 n4 n5 n6 n7 n8 n9 n10 n11 n12 n13 n14 n15 n16 n17 n18 n19
  go_enter Try.func16, Try.ntmps16
  go_wp2
  go_ret3
  exact ⟨rfl, rfl⟩

theorem two_any (s : ByteArray) (a b : Int) (w : World) (ha : In64 a) (hb : In64 b) :
    Calls Try.prog 16 #[.string s, .int .i64 a, .int .i64 b] w fun e w' => e = .returned (.tuple #[.int .i64 (twoV s a b), .bool (twoB s), .int .i64 (twoE s b)]) ∧ ∃ n, w' = w.drewN n := by
  by_cases n0 : s = ⟨#[47]⟩
  · subst n0; exact two_lift (two_DIV a b w ha hb) rfl rfl rfl
  by_cases n1 : s = ⟨#[77, 79, 68]⟩
  · subst n1; exact two_lift (two_MOD a b w ha hb) rfl rfl rfl
  by_cases n2 : s = ⟨#[43]⟩
  · subst n2; exact two_plain (two_ADD a b w ha hb) rfl rfl rfl
  by_cases n3 : s = ⟨#[45]⟩
  · subst n3; exact two_plain (two_SUB a b w ha hb) rfl rfl rfl
  by_cases n4 : s = ⟨#[42]⟩
  · subst n4; exact two_plain (two_MUL a b w ha hb) rfl rfl rfl
  by_cases n5 : s = ⟨#[65, 78, 68]⟩
  · subst n5; exact two_plain (two_AND a b w ha hb) rfl rfl rfl
  by_cases n6 : s = ⟨#[79, 82]⟩
  · subst n6; exact two_plain (two_OR a b w ha hb) rfl rfl rfl
  by_cases n7 : s = ⟨#[88, 79, 82]⟩
  · subst n7; exact two_plain (two_XOR a b w ha hb) rfl rfl rfl
  by_cases n8 : s = ⟨#[76, 83, 72, 73, 70, 84]⟩
  · subst n8; exact two_plain (two_SHL a b w ha hb) rfl rfl rfl
  by_cases n9 : s = ⟨#[82, 83, 72, 73, 70, 84]⟩
  · subst n9; exact two_plain (two_SHR a b w ha hb) rfl rfl rfl
  by_cases n10 : s = ⟨#[77, 73, 78]⟩
  · subst n10; exact two_plain (two_MIN a b w ha hb) rfl rfl rfl
  by_cases n11 : s = ⟨#[77, 65, 88]⟩
  · subst n11; exact two_plain (two_MAX a b w ha hb) rfl rfl rfl
  by_cases n12 : s = ⟨#[61]⟩
  · subst n12; exact two_plain (two_EQ a b w ha hb) rfl rfl rfl
  by_cases n13 : s = ⟨#[60, 62]⟩
  · subst n13; exact two_plain (two_NE a b w ha hb) rfl rfl rfl
  by_cases n14 : s = ⟨#[60]⟩
  · subst n14; exact two_plain (two_LT a b w ha hb) rfl rfl rfl
  by_cases n15 : s = ⟨#[62]⟩
  · subst n15; exact two_plain (two_GT a b w ha hb) rfl rfl rfl
  by_cases n16 : s = ⟨#[60, 61]⟩
  · subst n16; exact two_plain (two_LE a b w ha hb) rfl rfl rfl
  by_cases n17 : s = ⟨#[62, 61]⟩
  · subst n17; exact two_plain (two_GE a b w ha hb) rfl rfl rfl
  by_cases n18 : s = ⟨#[85, 60]⟩
  · subst n18; exact two_plain (two_ULT a b w ha hb) rfl rfl rfl
  by_cases n19 : s = ⟨#[85, 62]⟩
  · subst n19; exact two_plain (two_UGT a b w ha hb) rfl rfl rfl
  have e1 : twoV s a b = 0 := by unfold twoV; rw [if_neg n0, if_neg n1, if_neg n2, if_neg n3, if_neg n4, if_neg n5, if_neg n6, if_neg n7, if_neg n8, if_neg n9, if_neg n10, if_neg n11, if_neg n12, if_neg n13, if_neg n14, if_neg n15, if_neg n16, if_neg n17, if_neg n18, if_neg n19]
  have e2 : twoB s = false := by unfold twoB; rw [if_neg n0, if_neg n1, if_neg n2, if_neg n3, if_neg n4, if_neg n5, if_neg n6, if_neg n7, if_neg n8, if_neg n9, if_neg n10, if_neg n11, if_neg n12, if_neg n13, if_neg n14, if_neg n15, if_neg n16, if_neg n17, if_neg n18, if_neg n19]
  have e3 : twoE s b = 0 := by unfold twoE; rw [if_neg n0, if_neg n1]
  exact two_plain (two_other s a b w ha hb n0 n1 n2 n3 n4 n5 n6 n7 n8 n9 n10 n11 n12 n13 n14 n15 n16 n17 n18 n19) e1.symm e2.symm e3.symm
end Go.Proofs.Ythaoifccdheldaa
