/- The walks of the document's Two: what it hands back, by the words' names. -/
import Derived.Test.YthaoifccdheldaaShift
namespace Go.Proofs.Ythaoifccdheldaa
open Go.RowKit
set_option linter.unusedVariables false

theorem rtwo_lift {s : ByteArray} {a b v x f g : Int} {p q : Bool} {w : World} (h : Calls Try.prog 17 #[.string s, .int .i64 a, .int .i64 b] w fun e w' => e = .returned (.tuple #[.int .i64 (v), .bool p, .int .i64 (f)]) ∧ ∃ n, w' = w.drewN n) (h1 : v = x) (h2 : p = q) (h3 : f = g) : Calls Try.prog 17 #[.string s, .int .i64 a, .int .i64 b] w fun e w' => e = .returned (.tuple #[.int .i64 (x), .bool q, .int .i64 (g)]) ∧ ∃ n, w' = w.drewN n := by subst h1; subst h2; subst h3; exact h
theorem rtwo_plain {s : ByteArray} {a b v x f g : Int} {p q : Bool} {w : World} (h : Calls Try.prog 17 #[.string s, .int .i64 a, .int .i64 b] w fun e w' => e = .returned (.tuple #[.int .i64 (v), .bool p, .int .i64 (f)]) ∧ w = w') (h1 : v = x) (h2 : p = q) (h3 : f = g) : Calls Try.prog 17 #[.string s, .int .i64 a, .int .i64 b] w fun e w' => e = .returned (.tuple #[.int .i64 (x), .bool q, .int .i64 (g)]) ∧ ∃ n, w' = w.drewN n := by subst h1; subst h2; subst h3; exact h.mono fun e w' h => ⟨h.1, 0, h.2.symm⟩
set_option maxHeartbeats 400000 in
theorem rtwo_DIV (a b : Int) (w : World) (ha : In64 a) (hb : In64 b) :
    Calls Try.prog 17 #[.string ⟨#[47]⟩, .int .i64 a, .int .i64 b] w fun e w' => e = .returned (.tuple #[.int .i64 (vQ a b), .bool true, .int .i64 (vE b)]) ∧ w = w' := by
  have hd := fun w => rdiv_any a b w ha hb
  have HD := Lib.hid hd; clear hd
  generalize hq : vQ a b = q at *
  generalize hr : vR a b = r at *
  generalize hf : vE b = f at *
  clear hq hr hf
  obtain ⟨h1, h2⟩ := ha
  obtain ⟨h3, h4⟩ := hb
  go_enter Try.func17, Try.ntmps17
  go_wp2_with fail
  refine (HD.out _).mono ?_
  rintro e w' ⟨rfl, rfl⟩
  go_wp2
  go_ret3
  exact ⟨ret_ibi (rfl) rfl rfl, rfl⟩

set_option maxHeartbeats 400000 in
theorem rtwo_MOD (a b : Int) (w : World) (ha : In64 a) (hb : In64 b) :
    Calls Try.prog 17 #[.string ⟨#[77, 79, 68]⟩, .int .i64 a, .int .i64 b] w fun e w' => e = .returned (.tuple #[.int .i64 (vR a b), .bool true, .int .i64 (vE b)]) ∧ w = w' := by
  have hd := fun w => rdiv_any a b w ha hb
  have HD := Lib.hid hd; clear hd
  generalize hq : vQ a b = q at *
  generalize hr : vR a b = r at *
  generalize hf : vE b = f at *
  clear hq hr hf
  obtain ⟨h1, h2⟩ := ha
  obtain ⟨h3, h4⟩ := hb
  go_enter Try.func17, Try.ntmps17
  go_wp2_with fail
  refine (HD.out _).mono ?_
  rintro e w' ⟨rfl, rfl⟩
  go_wp2
  go_ret3
  exact ⟨ret_ibi (rfl) rfl rfl, rfl⟩

set_option maxHeartbeats 400000 in
theorem rtwo_ADD (a b : Int) (w : World) (ha : In64 a) (hb : In64 b) :
    Calls Try.prog 17 #[.string ⟨#[43]⟩, .int .i64 a, .int .i64 b] w fun e w' => e = .returned (.tuple #[.int .i64 (wrap64 (a + b)), .bool true, .int .i64 (0)]) ∧ w = w' := by
  have hd := fun w => rdiv_any a b w ha hb
  have HD := Lib.hid hd; clear hd
  generalize hq : vQ a b = q at *
  generalize hr : vR a b = r at *
  generalize hf : vE b = f at *
  clear hq hr hf
  obtain ⟨h1, h2⟩ := ha
  obtain ⟨h3, h4⟩ := hb
  go_enter Try.func17, Try.ntmps17
  go_wp2_with fail
  refine (HD.out _).mono ?_
  rintro e w' ⟨rfl, rfl⟩
  go_wp2
  go_ret3
  exact ⟨rfl, rfl⟩

set_option maxHeartbeats 400000 in
theorem rtwo_SUB (a b : Int) (w : World) (ha : In64 a) (hb : In64 b) :
    Calls Try.prog 17 #[.string ⟨#[45]⟩, .int .i64 a, .int .i64 b] w fun e w' => e = .returned (.tuple #[.int .i64 (wrap64 (a - b)), .bool true, .int .i64 (0)]) ∧ w = w' := by
  have hd := fun w => rdiv_any a b w ha hb
  have HD := Lib.hid hd; clear hd
  generalize hq : vQ a b = q at *
  generalize hr : vR a b = r at *
  generalize hf : vE b = f at *
  clear hq hr hf
  obtain ⟨h1, h2⟩ := ha
  obtain ⟨h3, h4⟩ := hb
  go_enter Try.func17, Try.ntmps17
  go_wp2_with fail
  refine (HD.out _).mono ?_
  rintro e w' ⟨rfl, rfl⟩
  go_wp2
  go_ret3
  exact ⟨rfl, rfl⟩

set_option maxHeartbeats 400000 in
theorem rtwo_MUL (a b : Int) (w : World) (ha : In64 a) (hb : In64 b) :
    Calls Try.prog 17 #[.string ⟨#[42]⟩, .int .i64 a, .int .i64 b] w fun e w' => e = .returned (.tuple #[.int .i64 (wrap64 (a * b)), .bool true, .int .i64 (0)]) ∧ w = w' := by
  have hd := fun w => rdiv_any a b w ha hb
  have HD := Lib.hid hd; clear hd
  generalize hq : vQ a b = q at *
  generalize hr : vR a b = r at *
  generalize hf : vE b = f at *
  clear hq hr hf
  obtain ⟨h1, h2⟩ := ha
  obtain ⟨h3, h4⟩ := hb
  go_enter Try.func17, Try.ntmps17
  go_wp2_with fail
  refine (HD.out _).mono ?_
  rintro e w' ⟨rfl, rfl⟩
  go_wp2
  go_ret3
  exact ⟨rfl, rfl⟩

set_option maxHeartbeats 400000 in
theorem rtwo_AND (a b : Int) (w : World) (ha : In64 a) (hb : In64 b) :
    Calls Try.prog 17 #[.string ⟨#[65, 78, 68]⟩, .int .i64 a, .int .i64 b] w fun e w' => e = .returned (.tuple #[.int .i64 (bits .and .i64 a b), .bool true, .int .i64 (0)]) ∧ w = w' := by
  have hd := fun w => rdiv_any a b w ha hb
  have HD := Lib.hid hd; clear hd
  generalize hq : vQ a b = q at *
  generalize hr : vR a b = r at *
  generalize hf : vE b = f at *
  clear hq hr hf
  obtain ⟨h1, h2⟩ := ha
  obtain ⟨h3, h4⟩ := hb
  go_enter Try.func17, Try.ntmps17
  go_wp2_with fail
  refine (HD.out _).mono ?_
  rintro e w' ⟨rfl, rfl⟩
  go_wp2
  go_ret3
  exact ⟨rfl, rfl⟩

set_option maxHeartbeats 400000 in
theorem rtwo_OR (a b : Int) (w : World) (ha : In64 a) (hb : In64 b) :
    Calls Try.prog 17 #[.string ⟨#[79, 82]⟩, .int .i64 a, .int .i64 b] w fun e w' => e = .returned (.tuple #[.int .i64 (bits .or .i64 a b), .bool true, .int .i64 (0)]) ∧ w = w' := by
  have hd := fun w => rdiv_any a b w ha hb
  have HD := Lib.hid hd; clear hd
  generalize hq : vQ a b = q at *
  generalize hr : vR a b = r at *
  generalize hf : vE b = f at *
  clear hq hr hf
  obtain ⟨h1, h2⟩ := ha
  obtain ⟨h3, h4⟩ := hb
  go_enter Try.func17, Try.ntmps17
  go_wp2_with fail
  refine (HD.out _).mono ?_
  rintro e w' ⟨rfl, rfl⟩
  go_wp2
  go_ret3
  exact ⟨rfl, rfl⟩

set_option maxHeartbeats 400000 in
theorem rtwo_XOR (a b : Int) (w : World) (ha : In64 a) (hb : In64 b) :
    Calls Try.prog 17 #[.string ⟨#[88, 79, 82]⟩, .int .i64 a, .int .i64 b] w fun e w' => e = .returned (.tuple #[.int .i64 (bits .xor .i64 a b), .bool true, .int .i64 (0)]) ∧ w = w' := by
  have hd := fun w => rdiv_any a b w ha hb
  have HD := Lib.hid hd; clear hd
  generalize hq : vQ a b = q at *
  generalize hr : vR a b = r at *
  generalize hf : vE b = f at *
  clear hq hr hf
  obtain ⟨h1, h2⟩ := ha
  obtain ⟨h3, h4⟩ := hb
  go_enter Try.func17, Try.ntmps17
  go_wp2_with fail
  refine (HD.out _).mono ?_
  rintro e w' ⟨rfl, rfl⟩
  go_wp2
  go_ret3
  exact ⟨rfl, rfl⟩

set_option maxHeartbeats 400000 in
theorem rtwo_SHL (a b : Int) (w : World) (ha : In64 a) (hb : In64 b) :
    Calls Try.prog 17 #[.string ⟨#[76, 83, 72, 73, 70, 84]⟩, .int .i64 a, .int .i64 b] w fun e w' => e = .returned (.tuple #[.int .i64 (vShl a b), .bool true, .int .i64 (0)]) ∧ w = w' := by
  have hd := fun w => rdiv_any a b w ha hb
  have HD := Lib.hid hd; clear hd
  generalize hq : vQ a b = q at *
  generalize hr : vR a b = r at *
  generalize hf : vE b = f at *
  clear hq hr hf
  obtain ⟨h1, h2⟩ := ha
  obtain ⟨h3, h4⟩ := hb
  have hs := fun w => shifted_SHL a b w ⟨h1, h2⟩ ⟨h3, h4⟩
  have HS := Lib.hid hs; clear hs
  go_enter Try.func17, Try.ntmps17
  go_wp2_with fail
  refine (HD.out _).mono ?_
  rintro e w' ⟨rfl, rfl⟩
  go_wp2_with fail
  refine (HS.out _).mono ?_
  rintro e w' ⟨rfl, rfl⟩
  go_wp2_with fail
  go_ret3
  exact ⟨rfl, rfl⟩

set_option maxHeartbeats 400000 in
theorem rtwo_SHR (a b : Int) (w : World) (ha : In64 a) (hb : In64 b) :
    Calls Try.prog 17 #[.string ⟨#[82, 83, 72, 73, 70, 84]⟩, .int .i64 a, .int .i64 b] w fun e w' => e = .returned (.tuple #[.int .i64 (vShr a b), .bool true, .int .i64 (0)]) ∧ w = w' := by
  have hd := fun w => rdiv_any a b w ha hb
  have HD := Lib.hid hd; clear hd
  generalize hq : vQ a b = q at *
  generalize hr : vR a b = r at *
  generalize hf : vE b = f at *
  clear hq hr hf
  obtain ⟨h1, h2⟩ := ha
  obtain ⟨h3, h4⟩ := hb
  have hs := fun w => shifted_SHR a b w ⟨h1, h2⟩ ⟨h3, h4⟩
  have HS := Lib.hid hs; clear hs
  go_enter Try.func17, Try.ntmps17
  go_wp2_with fail
  refine (HD.out _).mono ?_
  rintro e w' ⟨rfl, rfl⟩
  go_wp2_with fail
  refine (HS.out _).mono ?_
  rintro e w' ⟨rfl, rfl⟩
  go_wp2_with fail
  go_ret3
  exact ⟨rfl, rfl⟩

set_option maxHeartbeats 400000 in
theorem rtwo_MIN (a b : Int) (w : World) (ha : In64 a) (hb : In64 b) :
    Calls Try.prog 17 #[.string ⟨#[77, 73, 78]⟩, .int .i64 a, .int .i64 b] w fun e w' => e = .returned (.tuple #[.int .i64 (vMin a b), .bool true, .int .i64 (0)]) ∧ w = w' := by
  have hd := fun w => rdiv_any a b w ha hb
  have HD := Lib.hid hd; clear hd
  generalize hq : vQ a b = q at *
  generalize hr : vR a b = r at *
  generalize hf : vE b = f at *
  clear hq hr hf
  obtain ⟨h1, h2⟩ := ha
  obtain ⟨h3, h4⟩ := hb
  by_cases hc : a < b
  · have hv : vMin a b = a := if_pos hc
    have H := Lib.hid hv; clear hv
    go_enter Try.func17, Try.ntmps17
    go_wp2_with fail
    refine (HD.out _).mono ?_
    rintro e w' ⟨rfl, rfl⟩
    go_wp2
    go_ret3
    exact ⟨ret_ibi (H.out.symm) rfl rfl, rfl⟩
  · have hv : vMin a b = b := if_neg hc
    by_cases he : b < a
    · have hn : b ≤ a := by omega
      have H := Lib.hid hv; clear hv hc
      go_enter Try.func17, Try.ntmps17
      go_wp2_with fail
      refine (HD.out _).mono ?_
      rintro e w' ⟨rfl, rfl⟩
      go_wp2
      go_ret3
      exact ⟨ret_ibi (H.out.symm) rfl rfl, rfl⟩
    · have hee : a = b := by omega
      rw [hee] at hv
      have hv2 : vMin a b = a := by rw [hee]; exact hv
      have hv3 : vMin a b = b := hv2.trans hee
      have H := Lib.hid hv2
      have H2 := Lib.hid hv3
      have hle : a ≤ b := by omega
      have hle2 : b ≤ a := by omega
      clear hv hv2 hv3 hc hee he
      go_enter Try.func17, Try.ntmps17
      go_wp2_with fail
      refine (HD.out _).mono ?_
      rintro e w' ⟨rfl, rfl⟩
      go_wp2
      all_goals go_ret3
      all_goals exact ⟨ret_ibi (by first | exact H.out.symm | exact H2.out.symm) rfl rfl, rfl⟩

set_option maxHeartbeats 400000 in
theorem rtwo_MAX (a b : Int) (w : World) (ha : In64 a) (hb : In64 b) :
    Calls Try.prog 17 #[.string ⟨#[77, 65, 88]⟩, .int .i64 a, .int .i64 b] w fun e w' => e = .returned (.tuple #[.int .i64 (vMax a b), .bool true, .int .i64 (0)]) ∧ w = w' := by
  have hd := fun w => rdiv_any a b w ha hb
  have HD := Lib.hid hd; clear hd
  generalize hq : vQ a b = q at *
  generalize hr : vR a b = r at *
  generalize hf : vE b = f at *
  clear hq hr hf
  obtain ⟨h1, h2⟩ := ha
  obtain ⟨h3, h4⟩ := hb
  by_cases hc : a < b
  · have hv : vMax a b = b := if_pos hc
    have H := Lib.hid hv; clear hv
    go_enter Try.func17, Try.ntmps17
    go_wp2_with fail
    refine (HD.out _).mono ?_
    rintro e w' ⟨rfl, rfl⟩
    go_wp2
    go_ret3
    exact ⟨ret_ibi (H.out.symm) rfl rfl, rfl⟩
  · have hv : vMax a b = a := if_neg hc
    by_cases he : b < a
    · have hn : b ≤ a := by omega
      have H := Lib.hid hv; clear hv hc
      go_enter Try.func17, Try.ntmps17
      go_wp2_with fail
      refine (HD.out _).mono ?_
      rintro e w' ⟨rfl, rfl⟩
      go_wp2
      go_ret3
      exact ⟨ret_ibi (H.out.symm) rfl rfl, rfl⟩
    · have hee : a = b := by omega
      rw [hee] at hv
      have hv2 : vMax a b = a := by rw [hee]; exact hv
      have hv3 : vMax a b = b := hv2.trans hee
      have H := Lib.hid hv2
      have H2 := Lib.hid hv3
      have hle : a ≤ b := by omega
      have hle2 : b ≤ a := by omega
      clear hv hv2 hv3 hc hee he
      go_enter Try.func17, Try.ntmps17
      go_wp2_with fail
      refine (HD.out _).mono ?_
      rintro e w' ⟨rfl, rfl⟩
      go_wp2
      all_goals go_ret3
      all_goals exact ⟨ret_ibi (by first | exact H.out.symm | exact H2.out.symm) rfl rfl, rfl⟩

set_option maxHeartbeats 400000 in
theorem rtwo_EQ (a b : Int) (w : World) (ha : In64 a) (hb : In64 b) :
    Calls Try.prog 17 #[.string ⟨#[61]⟩, .int .i64 a, .int .i64 b] w fun e w' => e = .returned (.tuple #[.int .i64 (flg (decide (a = b))), .bool true, .int .i64 (0)]) ∧ w = w' := by
  have hd := fun w => rdiv_any a b w ha hb
  have HD := Lib.hid hd; clear hd
  generalize hq : vQ a b = q at *
  generalize hr : vR a b = r at *
  generalize hf : vE b = f at *
  clear hq hr hf
  obtain ⟨h1, h2⟩ := ha
  obtain ⟨h3, h4⟩ := hb
  by_cases hc : a = b
  · have hv : flg (decide (a = b)) = -1 := flg_t (by simpa using hc)
    have H := Lib.hid hv; clear hv
    have hb := beq_t hc
    clear hc
    go_enter Try.func17, Try.ntmps17
    go_wp2_with fail
    refine (HD.out _).mono ?_
    rintro e w' ⟨rfl, rfl⟩
    go_wp2
    go_ret3
    exact ⟨ret_ibi (H.out.symm) rfl rfl, rfl⟩
  · have hv : flg (decide (a = b)) = 0 := flg_f (by simpa using hc)
    have H := Lib.hid hv; clear hv
    have hb := beq_f hc
    clear hc
    go_enter Try.func17, Try.ntmps17
    go_wp2_with fail
    refine (HD.out _).mono ?_
    rintro e w' ⟨rfl, rfl⟩
    go_wp2
    go_ret3
    exact ⟨ret_ibi (H.out.symm) rfl rfl, rfl⟩

set_option maxHeartbeats 400000 in
theorem rtwo_NE (a b : Int) (w : World) (ha : In64 a) (hb : In64 b) :
    Calls Try.prog 17 #[.string ⟨#[60, 62]⟩, .int .i64 a, .int .i64 b] w fun e w' => e = .returned (.tuple #[.int .i64 (flg (decide (a ≠ b))), .bool true, .int .i64 (0)]) ∧ w = w' := by
  have hd := fun w => rdiv_any a b w ha hb
  have HD := Lib.hid hd; clear hd
  generalize hq : vQ a b = q at *
  generalize hr : vR a b = r at *
  generalize hf : vE b = f at *
  clear hq hr hf
  obtain ⟨h1, h2⟩ := ha
  obtain ⟨h3, h4⟩ := hb
  by_cases hc : a = b
  · have hv : flg (decide (a ≠ b)) = 0 := flg_f (by simpa using hc)
    have H := Lib.hid hv; clear hv
    have hb := bne_f hc
    clear hc
    go_enter Try.func17, Try.ntmps17
    go_wp2_with fail
    refine (HD.out _).mono ?_
    rintro e w' ⟨rfl, rfl⟩
    go_wp2
    go_ret3
    exact ⟨ret_ibi (H.out.symm) rfl rfl, rfl⟩
  · have hv : flg (decide (a ≠ b)) = -1 := flg_t (by simpa using hc)
    have H := Lib.hid hv; clear hv
    have hb := bne_t hc
    clear hc
    go_enter Try.func17, Try.ntmps17
    go_wp2_with fail
    refine (HD.out _).mono ?_
    rintro e w' ⟨rfl, rfl⟩
    go_wp2
    go_ret3
    exact ⟨ret_ibi (H.out.symm) rfl rfl, rfl⟩

set_option maxHeartbeats 400000 in
theorem rtwo_LT (a b : Int) (w : World) (ha : In64 a) (hb : In64 b) :
    Calls Try.prog 17 #[.string ⟨#[60]⟩, .int .i64 a, .int .i64 b] w fun e w' => e = .returned (.tuple #[.int .i64 (flg (decide (a < b))), .bool true, .int .i64 (0)]) ∧ w = w' := by
  have hd := fun w => rdiv_any a b w ha hb
  have HD := Lib.hid hd; clear hd
  generalize hq : vQ a b = q at *
  generalize hr : vR a b = r at *
  generalize hf : vE b = f at *
  clear hq hr hf
  obtain ⟨h1, h2⟩ := ha
  obtain ⟨h3, h4⟩ := hb
  by_cases hc : a < b
  · have hv : flg (decide (a < b)) = -1 := flg_t hc
    have H := Lib.hid hv; clear hv
    go_enter Try.func17, Try.ntmps17
    go_wp2_with fail
    refine (HD.out _).mono ?_
    rintro e w' ⟨rfl, rfl⟩
    go_wp2
    go_ret3
    exact ⟨ret_ibi (H.out.symm) rfl rfl, rfl⟩
  · have hv : flg (decide (a < b)) = 0 := flg_f hc
    have H := Lib.hid hv; clear hv
    have hn : b ≤ a := by omega
    clear hc
    go_enter Try.func17, Try.ntmps17
    go_wp2_with fail
    refine (HD.out _).mono ?_
    rintro e w' ⟨rfl, rfl⟩
    go_wp2
    go_ret3
    exact ⟨ret_ibi (H.out.symm) rfl rfl, rfl⟩

set_option maxHeartbeats 400000 in
theorem rtwo_GT (a b : Int) (w : World) (ha : In64 a) (hb : In64 b) :
    Calls Try.prog 17 #[.string ⟨#[62]⟩, .int .i64 a, .int .i64 b] w fun e w' => e = .returned (.tuple #[.int .i64 (flg (decide (b < a))), .bool true, .int .i64 (0)]) ∧ w = w' := by
  have hd := fun w => rdiv_any a b w ha hb
  have HD := Lib.hid hd; clear hd
  generalize hq : vQ a b = q at *
  generalize hr : vR a b = r at *
  generalize hf : vE b = f at *
  clear hq hr hf
  obtain ⟨h1, h2⟩ := ha
  obtain ⟨h3, h4⟩ := hb
  by_cases hc : b < a
  · have hv : flg (decide (b < a)) = -1 := flg_t hc
    have H := Lib.hid hv; clear hv
    go_enter Try.func17, Try.ntmps17
    go_wp2_with fail
    refine (HD.out _).mono ?_
    rintro e w' ⟨rfl, rfl⟩
    go_wp2
    go_ret3
    exact ⟨ret_ibi (H.out.symm) rfl rfl, rfl⟩
  · have hv : flg (decide (b < a)) = 0 := flg_f hc
    have H := Lib.hid hv; clear hv
    have hn : a ≤ b := by omega
    clear hc
    go_enter Try.func17, Try.ntmps17
    go_wp2_with fail
    refine (HD.out _).mono ?_
    rintro e w' ⟨rfl, rfl⟩
    go_wp2
    go_ret3
    exact ⟨ret_ibi (H.out.symm) rfl rfl, rfl⟩

set_option maxHeartbeats 400000 in
theorem rtwo_LE (a b : Int) (w : World) (ha : In64 a) (hb : In64 b) :
    Calls Try.prog 17 #[.string ⟨#[60, 61]⟩, .int .i64 a, .int .i64 b] w fun e w' => e = .returned (.tuple #[.int .i64 (flg (decide (a ≤ b))), .bool true, .int .i64 (0)]) ∧ w = w' := by
  have hd := fun w => rdiv_any a b w ha hb
  have HD := Lib.hid hd; clear hd
  generalize hq : vQ a b = q at *
  generalize hr : vR a b = r at *
  generalize hf : vE b = f at *
  clear hq hr hf
  obtain ⟨h1, h2⟩ := ha
  obtain ⟨h3, h4⟩ := hb
  by_cases hc : a ≤ b
  · have hv : flg (decide (a ≤ b)) = -1 := flg_t hc
    have H := Lib.hid hv; clear hv
    go_enter Try.func17, Try.ntmps17
    go_wp2_with fail
    refine (HD.out _).mono ?_
    rintro e w' ⟨rfl, rfl⟩
    go_wp2
    go_ret3
    exact ⟨ret_ibi (H.out.symm) rfl rfl, rfl⟩
  · have hv : flg (decide (a ≤ b)) = 0 := flg_f hc
    have H := Lib.hid hv; clear hv
    have hn : b < a := by omega
    clear hc
    go_enter Try.func17, Try.ntmps17
    go_wp2_with fail
    refine (HD.out _).mono ?_
    rintro e w' ⟨rfl, rfl⟩
    go_wp2
    go_ret3
    exact ⟨ret_ibi (H.out.symm) rfl rfl, rfl⟩

set_option maxHeartbeats 400000 in
theorem rtwo_GE (a b : Int) (w : World) (ha : In64 a) (hb : In64 b) :
    Calls Try.prog 17 #[.string ⟨#[62, 61]⟩, .int .i64 a, .int .i64 b] w fun e w' => e = .returned (.tuple #[.int .i64 (flg (decide (b ≤ a))), .bool true, .int .i64 (0)]) ∧ w = w' := by
  have hd := fun w => rdiv_any a b w ha hb
  have HD := Lib.hid hd; clear hd
  generalize hq : vQ a b = q at *
  generalize hr : vR a b = r at *
  generalize hf : vE b = f at *
  clear hq hr hf
  obtain ⟨h1, h2⟩ := ha
  obtain ⟨h3, h4⟩ := hb
  by_cases hc : b ≤ a
  · have hv : flg (decide (b ≤ a)) = -1 := flg_t hc
    have H := Lib.hid hv; clear hv
    go_enter Try.func17, Try.ntmps17
    go_wp2_with fail
    refine (HD.out _).mono ?_
    rintro e w' ⟨rfl, rfl⟩
    go_wp2
    go_ret3
    exact ⟨ret_ibi (H.out.symm) rfl rfl, rfl⟩
  · have hv : flg (decide (b ≤ a)) = 0 := flg_f hc
    have H := Lib.hid hv; clear hv
    have hn : a < b := by omega
    clear hc
    go_enter Try.func17, Try.ntmps17
    go_wp2_with fail
    refine (HD.out _).mono ?_
    rintro e w' ⟨rfl, rfl⟩
    go_wp2
    go_ret3
    exact ⟨ret_ibi (H.out.symm) rfl rfl, rfl⟩

set_option maxHeartbeats 400000 in
theorem rtwo_ULT (a b : Int) (w : World) (ha : In64 a) (hb : In64 b) :
    Calls Try.prog 17 #[.string ⟨#[85, 60]⟩, .int .i64 a, .int .i64 b] w fun e w' => e = .returned (.tuple #[.int .i64 (flg (decide (IntKind.u64.wrap a < IntKind.u64.wrap b))), .bool true, .int .i64 (0)]) ∧ w = w' := by
  have hd := fun w => rdiv_any a b w ha hb
  have HD := Lib.hid hd; clear hd
  generalize hq : vQ a b = q at *
  generalize hr : vR a b = r at *
  generalize hf : vE b = f at *
  clear hq hr hf
  obtain ⟨h1, h2⟩ := ha
  obtain ⟨h3, h4⟩ := hb
  by_cases hc : IntKind.u64.wrap a < IntKind.u64.wrap b
  · have hv : flg (decide (IntKind.u64.wrap a < IntKind.u64.wrap b)) = -1 := flg_t hc
    have H := Lib.hid hv; clear hv
    go_enter Try.func17, Try.ntmps17
    go_wp2_with fail
    refine (HD.out _).mono ?_
    rintro e w' ⟨rfl, rfl⟩
    go_wp2
    go_ret3
    exact ⟨ret_ibi (H.out.symm) rfl rfl, rfl⟩
  · have hv : flg (decide (IntKind.u64.wrap a < IntKind.u64.wrap b)) = 0 := flg_f hc
    have H := Lib.hid hv; clear hv
    have hn : IntKind.u64.wrap b ≤ IntKind.u64.wrap a := by omega
    clear hc
    go_enter Try.func17, Try.ntmps17
    go_wp2_with fail
    refine (HD.out _).mono ?_
    rintro e w' ⟨rfl, rfl⟩
    go_wp2
    go_ret3
    exact ⟨ret_ibi (H.out.symm) rfl rfl, rfl⟩

set_option maxHeartbeats 400000 in
theorem rtwo_UGT (a b : Int) (w : World) (ha : In64 a) (hb : In64 b) :
    Calls Try.prog 17 #[.string ⟨#[85, 62]⟩, .int .i64 a, .int .i64 b] w fun e w' => e = .returned (.tuple #[.int .i64 (flg (decide (IntKind.u64.wrap b < IntKind.u64.wrap a))), .bool true, .int .i64 (0)]) ∧ w = w' := by
  have hd := fun w => rdiv_any a b w ha hb
  have HD := Lib.hid hd; clear hd
  generalize hq : vQ a b = q at *
  generalize hr : vR a b = r at *
  generalize hf : vE b = f at *
  clear hq hr hf
  obtain ⟨h1, h2⟩ := ha
  obtain ⟨h3, h4⟩ := hb
  by_cases hc : IntKind.u64.wrap b < IntKind.u64.wrap a
  · have hv : flg (decide (IntKind.u64.wrap b < IntKind.u64.wrap a)) = -1 := flg_t hc
    have H := Lib.hid hv; clear hv
    go_enter Try.func17, Try.ntmps17
    go_wp2_with fail
    refine (HD.out _).mono ?_
    rintro e w' ⟨rfl, rfl⟩
    go_wp2
    go_ret3
    exact ⟨ret_ibi (H.out.symm) rfl rfl, rfl⟩
  · have hv : flg (decide (IntKind.u64.wrap b < IntKind.u64.wrap a)) = 0 := flg_f hc
    have H := Lib.hid hv; clear hv
    have hn : IntKind.u64.wrap a ≤ IntKind.u64.wrap b := by omega
    clear hc
    go_enter Try.func17, Try.ntmps17
    go_wp2_with fail
    refine (HD.out _).mono ?_
    rintro e w' ⟨rfl, rfl⟩
    go_wp2
    go_ret3
    exact ⟨ret_ibi (H.out.symm) rfl rfl, rfl⟩

set_option maxHeartbeats 1600000 in
theorem rtwo_other (s : ByteArray) (a b : Int) (w : World) (ha : In64 a) (hb : In64 b) (n0 : s ≠ ⟨#[47]⟩) (n1 : s ≠ ⟨#[77, 79, 68]⟩) (n2 : s ≠ ⟨#[43]⟩) (n3 : s ≠ ⟨#[45]⟩) (n4 : s ≠ ⟨#[42]⟩) (n5 : s ≠ ⟨#[65, 78, 68]⟩) (n6 : s ≠ ⟨#[79, 82]⟩) (n7 : s ≠ ⟨#[88, 79, 82]⟩) (n8 : s ≠ ⟨#[76, 83, 72, 73, 70, 84]⟩) (n9 : s ≠ ⟨#[82, 83, 72, 73, 70, 84]⟩) (n10 : s ≠ ⟨#[77, 73, 78]⟩) (n11 : s ≠ ⟨#[77, 65, 88]⟩) (n12 : s ≠ ⟨#[61]⟩) (n13 : s ≠ ⟨#[60, 62]⟩) (n14 : s ≠ ⟨#[60]⟩) (n15 : s ≠ ⟨#[62]⟩) (n16 : s ≠ ⟨#[60, 61]⟩) (n17 : s ≠ ⟨#[62, 61]⟩) (n18 : s ≠ ⟨#[85, 60]⟩) (n19 : s ≠ ⟨#[85, 62]⟩) :
    Calls Try.prog 17 #[.string s, .int .i64 a, .int .i64 b] w fun e w' => e = .returned (.tuple #[.int .i64 (0), .bool false, .int .i64 (0)]) ∧ w = w' := by
  have hd := fun w => rdiv_any a b w ha hb
  have HD := Lib.hid hd; clear hd
  generalize hq : vQ a b = q at *
  generalize hr : vR a b = r at *
  generalize hf : vE b = f at *
  clear hq hr hf
  clear ha hb
  have m0 : (s.toList == [47]) = false := str_ne n0
  have m1 : (s.toList == [77, 79, 68]) = false := str_ne n1
  have m2 : (s.toList == [43]) = false := str_ne n2
  have m3 : (s.toList == [45]) = false := str_ne n3
  have m4 : (s.toList == [42]) = false := str_ne n4
  have m5 : (s.toList == [65, 78, 68]) = false := str_ne n5
  have m6 : (s.toList == [79, 82]) = false := str_ne n6
  have m7 : (s.toList == [88, 79, 82]) = false := str_ne n7
  have m8 : (s.toList == [76, 83, 72, 73, 70, 84]) = false := str_ne n8
  have m9 : (s.toList == [82, 83, 72, 73, 70, 84]) = false := str_ne n9
  have m10 : (s.toList == [77, 73, 78]) = false := str_ne n10
  have m11 : (s.toList == [77, 65, 88]) = false := str_ne n11
  have m12 : (s.toList == [61]) = false := str_ne n12
  have m13 : (s.toList == [60, 62]) = false := str_ne n13
  have m14 : (s.toList == [60]) = false := str_ne n14
  have m15 : (s.toList == [62]) = false := str_ne n15
  have m16 : (s.toList == [60, 61]) = false := str_ne n16
  have m17 : (s.toList == [62, 61]) = false := str_ne n17
  have m18 : (s.toList == [85, 60]) = false := str_ne n18
  have m19 : (s.toList == [85, 62]) = false := str_ne n19
  clear n0 n1 n2 n3 n4 n5 n6 n7 n8 n9 n10 n11 n12 n13 n14 n15 n16 n17 n18 n19
  go_enter Try.func17, Try.ntmps17
  go_wp2_with fail
  refine (HD.out _).mono ?_
  rintro e w' ⟨rfl, rfl⟩
  go_wp2
  go_ret3
  exact ⟨rfl, rfl⟩

theorem rtwo_any (s : ByteArray) (a b : Int) (w : World) (ha : In64 a) (hb : In64 b) :
    Calls Try.prog 17 #[.string s, .int .i64 a, .int .i64 b] w fun e w' => e = .returned (.tuple #[.int .i64 (twoV s a b), .bool (twoB s), .int .i64 (twoE s b)]) ∧ ∃ n, w' = w.drewN n := by
  by_cases n0 : s = ⟨#[47]⟩
  · subst n0; exact rtwo_plain (rtwo_DIV a b w ha hb) rfl rfl rfl
  by_cases n1 : s = ⟨#[77, 79, 68]⟩
  · subst n1; exact rtwo_plain (rtwo_MOD a b w ha hb) rfl rfl rfl
  by_cases n2 : s = ⟨#[43]⟩
  · subst n2; exact rtwo_plain (rtwo_ADD a b w ha hb) rfl rfl rfl
  by_cases n3 : s = ⟨#[45]⟩
  · subst n3; exact rtwo_plain (rtwo_SUB a b w ha hb) rfl rfl rfl
  by_cases n4 : s = ⟨#[42]⟩
  · subst n4; exact rtwo_plain (rtwo_MUL a b w ha hb) rfl rfl rfl
  by_cases n5 : s = ⟨#[65, 78, 68]⟩
  · subst n5; exact rtwo_plain (rtwo_AND a b w ha hb) rfl rfl rfl
  by_cases n6 : s = ⟨#[79, 82]⟩
  · subst n6; exact rtwo_plain (rtwo_OR a b w ha hb) rfl rfl rfl
  by_cases n7 : s = ⟨#[88, 79, 82]⟩
  · subst n7; exact rtwo_plain (rtwo_XOR a b w ha hb) rfl rfl rfl
  by_cases n8 : s = ⟨#[76, 83, 72, 73, 70, 84]⟩
  · subst n8; exact rtwo_plain (rtwo_SHL a b w ha hb) rfl rfl rfl
  by_cases n9 : s = ⟨#[82, 83, 72, 73, 70, 84]⟩
  · subst n9; exact rtwo_plain (rtwo_SHR a b w ha hb) rfl rfl rfl
  by_cases n10 : s = ⟨#[77, 73, 78]⟩
  · subst n10; exact rtwo_plain (rtwo_MIN a b w ha hb) rfl rfl rfl
  by_cases n11 : s = ⟨#[77, 65, 88]⟩
  · subst n11; exact rtwo_plain (rtwo_MAX a b w ha hb) rfl rfl rfl
  by_cases n12 : s = ⟨#[61]⟩
  · subst n12; exact rtwo_plain (rtwo_EQ a b w ha hb) rfl rfl rfl
  by_cases n13 : s = ⟨#[60, 62]⟩
  · subst n13; exact rtwo_plain (rtwo_NE a b w ha hb) rfl rfl rfl
  by_cases n14 : s = ⟨#[60]⟩
  · subst n14; exact rtwo_plain (rtwo_LT a b w ha hb) rfl rfl rfl
  by_cases n15 : s = ⟨#[62]⟩
  · subst n15; exact rtwo_plain (rtwo_GT a b w ha hb) rfl rfl rfl
  by_cases n16 : s = ⟨#[60, 61]⟩
  · subst n16; exact rtwo_plain (rtwo_LE a b w ha hb) rfl rfl rfl
  by_cases n17 : s = ⟨#[62, 61]⟩
  · subst n17; exact rtwo_plain (rtwo_GE a b w ha hb) rfl rfl rfl
  by_cases n18 : s = ⟨#[85, 60]⟩
  · subst n18; exact rtwo_plain (rtwo_ULT a b w ha hb) rfl rfl rfl
  by_cases n19 : s = ⟨#[85, 62]⟩
  · subst n19; exact rtwo_plain (rtwo_UGT a b w ha hb) rfl rfl rfl
  have e1 : twoV s a b = 0 := by unfold twoV; rw [if_neg n0, if_neg n1, if_neg n2, if_neg n3, if_neg n4, if_neg n5, if_neg n6, if_neg n7, if_neg n8, if_neg n9, if_neg n10, if_neg n11, if_neg n12, if_neg n13, if_neg n14, if_neg n15, if_neg n16, if_neg n17, if_neg n18, if_neg n19]
  have e2 : twoB s = false := by unfold twoB; rw [if_neg n0, if_neg n1, if_neg n2, if_neg n3, if_neg n4, if_neg n5, if_neg n6, if_neg n7, if_neg n8, if_neg n9, if_neg n10, if_neg n11, if_neg n12, if_neg n13, if_neg n14, if_neg n15, if_neg n16, if_neg n17, if_neg n18, if_neg n19]
  have e3 : twoE s b = 0 := by unfold twoE; rw [if_neg n0, if_neg n1]
  exact rtwo_plain (rtwo_other s a b w ha hb n0 n1 n2 n3 n4 n5 n6 n7 n8 n9 n10 n11 n12 n13 n14 n15 n16 n17 n18 n19) e1.symm e2.symm e3.symm
end Go.Proofs.Ythaoifccdheldaa
