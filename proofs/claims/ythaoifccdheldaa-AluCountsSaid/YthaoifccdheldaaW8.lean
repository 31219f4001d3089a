/- The walk of AluCounts. -/
import Derived.Test.YthaoifccdheldaaW7
namespace Go.Proofs.Ythaoifccdheldaa
open Go.RowKit
set_option linter.unusedVariables false

theorem step_up {i n : Int} {j : Nat} (h1 : i ≤ 9000000000000000000) (h2 : -9000000000000000000 ≤ i) (hn : 0 ≤ n ∧ n < 256) (hj : (j : Int) < 1 + n) : wrap64 (i + j + 1) = i + j + 1 ∧ stB (i + j) (i + (1 + n)) 1 = decide ((j : Int) + 1 = 1 + n) := by
  refine ⟨wrap64_of ⟨by omega, by omega⟩, ?_⟩
  unfold stB
  have e : i + j - (i + (1 + n)) = j - (1 + n) := by omega
  rw [if_pos (by decide), e, wrap64_of ⟨by omega, by omega⟩, wrap64_of ⟨by omega, by omega⟩]
  by_cases h : (j : Int) + 1 = 1 + n
  · rw [decide_eq_true h, decide_eq_true (by omega), decide_eq_true (by omega)]; rfl
  · rw [decide_eq_false h, decide_eq_false (p := 0 ≤ (j : Int) - (1 + n) + 1) (by omega), Bool.and_false]
theorem step_down {i n : Int} {j : Nat} (h1 : i ≤ 9000000000000000000) (h2 : -9000000000000000000 ≤ i) (hn : 0 ≤ n ∧ n < 256) (hj : (j : Int) ≤ 1 + n) : wrap64 (i + (1 + n) - j + -1) = i + (1 + n) - j - 1 ∧ stB (i + (1 + n) - j) i (-1) = decide ((j : Int) = 1 + n) := by
  refine ⟨wrap64_of ⟨by omega, by omega⟩, ?_⟩
  unfold stB
  have e : i + (1 + n) - j - i = (1 + n) - j := by omega
  rw [if_neg (by decide), e, wrap64_of ⟨by omega, by omega⟩, wrap64_of ⟨by omega, by omega⟩]
  by_cases h : (j : Int) = 1 + n
  · rw [decide_eq_true h, decide_eq_true (by omega), decide_eq_true (by omega)]; rfl
  · rw [decide_eq_false h, decide_eq_false (p := (1 + n) - (j : Int) + -1 < 0) (by omega), Bool.and_false]

set_option maxHeartbeats 400000 in
theorem aluCounts_above (i n : Int) (h : 9000000000000000000 < i) (w : World) : Calls Try.prog 8 #[.int .i64 i, .int .u8 n] w (Yes w) := by
  go_enter Try.func8, Try.ntmps8
  go_wp2_with fail
  refine (shown_all _).mono ?_
  rintro e w' ⟨rfl, rfl⟩
  go_wp2
  go_ret
  exact ⟨rfl, Below.refl _ _⟩
set_option maxHeartbeats 400000 in
theorem aluCounts_below (i n : Int) (h : i < -9000000000000000000) (w : World) : Calls Try.prog 8 #[.int .i64 i, .int .u8 n] w (Yes w) := by
  go_enter Try.func8, Try.ntmps8
  go_wp2_with fail
  refine (shown_all _).mono ?_
  rintro e w' ⟨rfl, rfl⟩
  go_wp2
  go_ret
  exact ⟨rfl, Below.refl _ _⟩

set_option maxRecDepth 8000 in
set_option maxHeartbeats 1600000 in
theorem aluCounts_in (i n : Int) (h1 : i ≤ 9000000000000000000) (h2 : -9000000000000000000 ≤ i) (hn0 : 0 ≤ n) (hn1 : n < 256) (w : World) : Calls Try.prog 8 #[.int .i64 i, .int .u8 n] w (Yes w) := by
  go_enter Try.func8, Try.ntmps8
  go_wp2_with fail
  refine (shown_all _).mono ?_
  rintro e w' ⟨rfl, rfl⟩
  go_wp2_with fail
  go_loop [7, 8, 9] (fun x p t => ∃ (j : Nat) (b : Bool), (((j : Int) < 1 + n ∧ b = false) ∨ ((j : Int) = 1 + n ∧ b = true)) ∧ x = .int .i64 (i + j) ∧ p = .bool b ∧ t = .int .i64 j) (fun _ _ t => 300 - (intOf t).toNat)
  case atStart => exact ⟨0, false, Or.inl ⟨by omega, rfl⟩, by simp, rfl, rfl⟩
  case round =>
    obtain ⟨j, b, hor, rfl, rfl, rfl⟩ := hrel
    rcases hor with ⟨hj, rfl⟩ | ⟨hj, rfl⟩
    · have hs := step_up h1 h2 ⟨hn0, hn1⟩ hj
      obtain ⟨q, hq⟩ : ∃ q, q = decide ((j : Int) + 1 = 1 + n) := ⟨_, rfl⟩
      have H := Lib.hid (step_turn (x := i + j + 1) (q := q) (fun w => step_any (i + j) (i + (1 + n)) 1 w ⟨by decide, by decide⟩) hs.1 (hs.2.trans hq.symm))
      have HQ := Lib.hid hq
      clear hs hq
      go_wp2_with fail
      refine (H.out _).mono ?_
      rintro e w' ⟨rfl, rfl⟩
      go_wp2_with fail
      go_round
      case rel =>
        refine ⟨j + 1, q, ?_, by go_num, rfl, by go_num⟩
        rw [HQ.out]
        by_cases h : (j : Int) + 1 = 1 + n
        · exact Or.inr ⟨by omega, decide_eq_true h⟩
        · exact Or.inl ⟨by omega, decide_eq_false h⟩
      case measure => simp [intOf]; omega
    · have hb1 := beq_t hj
      have hb2 : (i + (j : Int) == i + (1 + n)) = true := beq_t (by omega)
      have hj1 : (j : Int) ≤ 1 + n := by omega
      have hj2 : 1 + n ≤ (j : Int) := by omega
      clear hj
      go_wp2_with fail
      go_loop [10, 11, 12] (fun x p t => ∃ (m : Nat) (b : Bool), (((m : Int) ≤ 1 + n ∧ b = false) ∨ ((m : Int) = 1 + n + 1 ∧ b = true)) ∧ x = .int .i64 (i + (1 + n) - m) ∧ p = .bool b ∧ t = .int .i64 m) (fun _ _ t => 300 - (intOf t).toNat)
      case atStart => exact ⟨0, false, Or.inl ⟨by omega, rfl⟩, by simp, rfl, rfl⟩
      case round =>
        obtain ⟨m, b, hor, rfl, rfl, rfl⟩ := hrel
        rcases hor with ⟨hm, rfl⟩ | ⟨hm, rfl⟩
        · have hs := step_down h1 h2 ⟨hn0, hn1⟩ hm
          obtain ⟨q, hq⟩ : ∃ q, q = decide ((m : Int) = 1 + n) := ⟨_, rfl⟩
          have H := Lib.hid (step_turn (x := i + (1 + n) - m - 1) (q := q) (fun w => step_any (i + (1 + n) - m) i (-1) w ⟨by decide, by decide⟩) hs.1 (hs.2.trans hq.symm))
          have HQ := Lib.hid hq
          clear hs hq
          go_wp2_with fail
          refine (H.out _).mono ?_
          rintro e w' ⟨rfl, rfl⟩
          go_wp2_with fail
          go_round
          case rel =>
            refine ⟨m + 1, q, ?_, by go_num, rfl, by go_num⟩
            rw [HQ.out]
            by_cases h : (m : Int) = 1 + n
            · exact Or.inr ⟨by omega, decide_eq_true h⟩
            · exact Or.inl ⟨by omega, decide_eq_false h⟩
          case measure => simp [intOf]; omega
        · have hb3 : ((m : Int) == 1 + n + 1) = true := beq_t hm
          have hb4 : (i + (1 + n) - (m : Int) == i - 1) = true := beq_t (by omega)
          have hm1 : (m : Int) ≤ 1 + n + 1 := by omega
          have hm2 : 1 + n + 1 ≤ (m : Int) := by omega
          clear hm
          go_wp2
          go_ret
          exact ⟨rfl, Below.refl _ _⟩
theorem aluCounts_walk (i n : Int) (hi : (Lit.int .i64 i).wf = true) (hn : (Lit.int .u8 n).wf = true) (w : World) : Calls Try.prog 8 #[.int .i64 i, .int .u8 n] w (Yes w) := by
  have h := u8_wf hn
  by_cases ha : 9000000000000000000 < i
  · exact aluCounts_above i n ha w
  · by_cases hb : i < -9000000000000000000
    · exact aluCounts_below i n hb w
    · exact aluCounts_in i n (by omega) (by omega) h.1 h.2 w
end Go.Proofs.Ythaoifccdheldaa
