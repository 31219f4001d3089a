/- The walk of AluHolds. -/
import Derived.Test.YthaoifccdheldaaShown
namespace Go.Proofs.Ythaoifccdheldaa
open Go.RowKit
set_option linter.unusedVariables false

theorem flg_or (p : Prop) [Decidable p] : (p ∧ flg (decide p) = -1) ∨ (¬ p ∧ flg (decide p) = 0) := by
  by_cases h : p
  · exact Or.inl ⟨h, flg_t h⟩
  · exact Or.inr ⟨h, flg_f h⟩
theorem u_same {a b : Int} (ha : In64 a) (hb : In64 b) (h : IntKind.u64.wrap a = IntKind.u64.wrap b) : a = b := by
  obtain ⟨h1, h2⟩ := ha
  obtain ⟨h3, h4⟩ := hb
  rw [wrapU, wrapU] at h; omega
theorem u_three {a b : Int} (ha : In64 a) (hb : In64 b) : (IntKind.u64.wrap a < IntKind.u64.wrap b ∧ ¬ a = b ∧ ¬ IntKind.u64.wrap b < IntKind.u64.wrap a) ∨ (¬ IntKind.u64.wrap a < IntKind.u64.wrap b ∧ a = b ∧ ¬ IntKind.u64.wrap b < IntKind.u64.wrap a) ∨ (¬ IntKind.u64.wrap a < IntKind.u64.wrap b ∧ ¬ a = b ∧ IntKind.u64.wrap b < IntKind.u64.wrap a) := by
  by_cases he : a = b
  · subst he; exact Or.inr (Or.inl ⟨Int.lt_irrefl _, rfl, Int.lt_irrefl _⟩)
  · have h5 : ¬ IntKind.u64.wrap a = IntKind.u64.wrap b := fun h => he (u_same ha hb h)
    rcases Int.lt_trichotomy (IntKind.u64.wrap a) (IntKind.u64.wrap b) with h | h | h
    · exact Or.inl ⟨h, he, Int.not_lt.2 (Int.le_of_lt h)⟩
    · exact absurd h h5
    · exact Or.inr (Or.inr ⟨Int.not_lt.2 (Int.le_of_lt h), he, h⟩)
theorem w_1 : wrap64 (-1) = -1 := wrap64_of ⟨by decide, by decide⟩
/-- Of below, the same and above just one is so. -/
theorem three {a b : Int} {p q r : Prop} [Decidable p] [Decidable q] [Decidable r] (h : (p ∧ ¬ q ∧ ¬ r) ∨ (¬ p ∧ q ∧ ¬ r) ∨ (¬ p ∧ ¬ q ∧ r)) :
    wrap64 (wrap64 (flg (decide p) + flg (decide q)) + flg (decide r)) = -1 := by
  rcases h with ⟨h1, h2, h3⟩ | ⟨h1, h2, h3⟩ | ⟨h1, h2, h3⟩
  · rw [flg_t h1, flg_f h2, flg_f h3]; decide +kernel
  · rw [flg_f h1, flg_t h2, flg_f h3]; decide +kernel
  · rw [flg_f h1, flg_f h2, flg_t h3]; decide +kernel
theorem flg_in (p : Bool) : In64 (flg p) := by cases p <;> exact ⟨by decide, by decide⟩
theorem inv_flg {p q : Prop} [Decidable p] [Decidable q] (h : p ↔ ¬ q) : vInv (flg (decide p)) = flg (decide q) := by
  rw [vInv_eq (flg_in _)]
  by_cases hq : q
  · rw [flg_f (p := p) (by rw [h]; exact not_not_intro hq), flg_t hq]; rfl
  · rw [flg_t (p := p) (by rw [h]; exact hq), flg_f hq]; rfl
theorem min_in {a b : Int} (ha : In64 a) (hb : In64 b) : In64 (vMin a b) := by unfold vMin; split <;> assumption
theorem max_in {a b : Int} (ha : In64 a) (hb : In64 b) : In64 (vMax a b) := by unfold vMax; split <;> assumption
theorem min_max (a b : Int) : vMin a b + vMax a b = a + b ∧ vMin a b ≤ vMax a b := by unfold vMin vMax; split <;> omega

theorem tdiv_in {a b : Int} (q : Int) : In64 (wrap64 q) := wrap64_range q
theorem vQ_in (a b : Int) : In64 (vQ a b) := by
  unfold vQ
  split
  · exact ⟨by decide, by decide⟩
  · split <;> exact wrap64_range _
theorem vR_in {a b : Int} (ha : In64 a) : In64 (vR a b) := by
  unfold vR
  split
  · exact ⟨by decide, by decide⟩
  · rename_i h
    split
    · exact wrap64_range _
    · exact tmod_range ha h
theorem mod_ex {x y : Int} (h : x % 18446744073709551616 = y % 18446744073709551616) : ∃ k, x = y + 18446744073709551616 * k := ⟨(x - y) / 18446744073709551616, by omega⟩
theorem div_back {a b : Int} (ha : In64 a) (h0 : ¬ b = 0) : wrap64 (wrap64 (vQ a b * b) + vR a b) = a := by
  have hid := Int.mul_tdiv_add_tmod a b
  have key : ∀ q r t : Int, q % 18446744073709551616 = t % 18446744073709551616 → (b * t + r) % 18446744073709551616 = a % 18446744073709551616 → wrap64 (wrap64 (q * b) + r) = a := by
    intro q r t hq hr
    obtain ⟨k, rfl⟩ := mod_ex hq
    have e : (t + 18446744073709551616 * k) * b = b * t + 18446744073709551616 * (k * b) := by rw [Int.add_mul, Int.mul_comm t b, Int.mul_assoc]
    have hm := wrap64_mod ((t + 18446744073709551616 * k) * b)
    rw [e] at hm ⊢
    rw [← wrap64_of ha]
    apply wrap64_congr
    generalize wrap64 (b * t + 18446744073709551616 * (k * b)) = z at *
    generalize b * t = u at *
    generalize k * b = v at *
    omega
  unfold vQ vR
  rw [if_neg h0, if_neg h0]
  by_cases hj : adj a b = true
  · rw [if_pos hj, if_pos hj]
    refine key _ _ (a.tdiv b - 1) ?_ ?_
    · have h1 := wrap64_mod (wrap64 (a.tdiv b) - 1); have h2 := wrap64_mod (a.tdiv b); omega
    · have h1 := wrap64_mod (a.tmod b + b)
      rw [Int.mul_sub, Int.mul_one]
      generalize b * a.tdiv b = u at *
      omega
  · rw [if_neg hj, if_neg hj]
    refine key _ _ (a.tdiv b) (wrap64_mod _) ?_
    rw [hid]

set_option maxHeartbeats 3200000 in
theorem aluHolds_zero (a b : Int) (ha : In64 a) (hb : In64 b) (hz : b = 0) (w : World) : Calls Try.prog 6 #[.int .i64 a, .int .i64 b] w (Yes w) := by
  have h0 := Lib.hid (shown_all)
  have clt := Lib.hid (wtwo (fun w => two_LT a b w ha hb))
  have ceq := Lib.hid (wtwo (fun w => two_EQ a b w ha hb))
  have cgt := Lib.hid (wtwo (fun w => two_GT a b w ha hb))
  have cul := Lib.hid (wtwo (fun w => two_ULT a b w ha hb))
  have cug := Lib.hid (wtwo (fun w => two_UGT a b w ha hb))
  have cle := Lib.hid (wtwo (fun w => two_LE a b w ha hb))
  have cge := Lib.hid (wtwo (fun w => two_GE a b w ha hb))
  have cne := Lib.hid (wtwo (fun w => two_NE a b w ha hb))
  have igt := Lib.hid (wone (one_turn (fun w => one_INV _ w (flg_in _)) (inv_flg (p := b < a) (q := a ≤ b) (by omega)) rfl))
  have ilt := Lib.hid (wone (one_turn (fun w => one_INV _ w (flg_in _)) (inv_flg (p := a < b) (q := b ≤ a) (by omega)) rfl))
  have ieq := Lib.hid (wone (one_turn (fun w => one_INV _ w (flg_in _)) (inv_flg (p := a = b) (q := a ≠ b) (by omega)) rfl))
  have cmin := Lib.hid (wtwo (fun w => two_MIN a b w ha hb))
  have cmax := Lib.hid (wtwo (fun w => two_MAX a b w ha hb))
  have csum := Lib.hid (wtwo (two_turn (fun w => two_ADD _ _ w (min_in ha hb) (max_in ha hb)) (congrArg wrap64 (min_max a b).1) rfl rfl))
  have cord := Lib.hid (wtwo (two_turn (fun w => two_LE _ _ w (min_in ha hb) (max_in ha hb)) (flg_t (min_max a b).2) rfl rfl))
  have hs := bne_f (three (a := a) (b := b) (p := a < b) (q := a = b) (r := b < a) (by omega))
  have hu := bne_f (three (a := a) (b := b) (p := IntKind.u64.wrap a < IntKind.u64.wrap b) (q := a = b) (r := IntKind.u64.wrap b < IntKind.u64.wrap a) (u_three ha hb))
  have he : vE b = -10 := if_pos hz
  have cdiv := Lib.hid (fun w => two_DIV a b w ha hb)
  have cmod := Lib.hid (fun w => two_MOD a b w ha hb)
  rw [he] at cdiv cmod
  have hb0 := beq_t hz
  clear he hz ha hb
  generalize flg (decide (a < b)) = lt at *
  generalize flg (decide (a = b)) = eq at *
  generalize flg (decide (b < a)) = gt at *
  generalize flg (decide (IntKind.u64.wrap a < IntKind.u64.wrap b)) = ul at *
  generalize flg (decide (IntKind.u64.wrap b < IntKind.u64.wrap a)) = ug at *
  generalize flg (decide (a ≤ b)) = le at *
  generalize flg (decide (b ≤ a)) = ge at *
  generalize flg (decide (a ≠ b)) = ne at *
  generalize vMin a b = mn at *
  generalize vMax a b = mx at *
  generalize vQ a b = q at *
  generalize vR a b = r at *
  go_enter Try.func6, Try.ntmps6
  go_wp2_with fail
  refine (h0.out _).mono ?_
  rintro e w' ⟨rfl, rfl⟩
  go_wp2_with fail
  refine (clt.out _).mono ?_
  rintro e w' ⟨rfl, rfl⟩
  go_wp2_with fail
  refine (ceq.out _).mono ?_
  rintro e w' ⟨rfl, rfl⟩
  go_wp2_with fail
  refine (cgt.out _).mono ?_
  rintro e w' ⟨rfl, rfl⟩
  go_wp2_with fail
  refine (cul.out _).mono ?_
  rintro e w' ⟨rfl, rfl⟩
  go_wp2_with fail
  refine (ceq.out _).mono ?_
  rintro e w' ⟨rfl, rfl⟩
  go_wp2_with fail
  refine (cug.out _).mono ?_
  rintro e w' ⟨rfl, rfl⟩
  go_wp2_with fail
  refine (cle.out _).mono ?_
  rintro e w' ⟨rfl, rfl⟩
  go_wp2_with fail
  refine (cgt.out _).mono ?_
  rintro e w' ⟨rfl, rfl⟩
  go_wp2_with fail
  refine (igt.out _).mono ?_
  rintro e w' ⟨rfl, rfl⟩
  go_wp2_with fail
  refine (cge.out _).mono ?_
  rintro e w' ⟨rfl, rfl⟩
  go_wp2_with fail
  refine (clt.out _).mono ?_
  rintro e w' ⟨rfl, rfl⟩
  go_wp2_with fail
  refine (ilt.out _).mono ?_
  rintro e w' ⟨rfl, rfl⟩
  go_wp2_with fail
  refine (cne.out _).mono ?_
  rintro e w' ⟨rfl, rfl⟩
  go_wp2_with fail
  refine (ceq.out _).mono ?_
  rintro e w' ⟨rfl, rfl⟩
  go_wp2_with fail
  refine (ieq.out _).mono ?_
  rintro e w' ⟨rfl, rfl⟩
  go_wp2_with fail
  refine (cmin.out _).mono ?_
  rintro e w' ⟨rfl, rfl⟩
  go_wp2_with fail
  refine (cmax.out _).mono ?_
  rintro e w' ⟨rfl, rfl⟩
  go_wp2_with fail
  refine (csum.out _).mono ?_
  rintro e w' ⟨rfl, rfl⟩
  go_wp2_with fail
  refine (cmin.out _).mono ?_
  rintro e w' ⟨rfl, rfl⟩
  go_wp2_with fail
  refine (cmax.out _).mono ?_
  rintro e w' ⟨rfl, rfl⟩
  go_wp2_with fail
  refine (cord.out _).mono ?_
  rintro e w' ⟨rfl, rfl⟩
  go_wp2_with fail
  refine (cdiv.out _).mono ?_
  rintro e w' ⟨rfl, n1, rfl⟩
  go_wp2_with fail
  refine (cmod.out _).mono ?_
  rintro e w' ⟨rfl, n2, rfl⟩
  go_wp2_with fail
  go_ret
  exact ⟨rfl, Joins.below_draws _ _ (n1 + n2)⟩

set_option maxHeartbeats 3200000 in
theorem aluHolds_some (a b : Int) (ha : In64 a) (hb : In64 b) (hz : ¬ b = 0) (w : World) : Calls Try.prog 6 #[.int .i64 a, .int .i64 b] w (Yes w) := by
  have h0 := Lib.hid (shown_all)
  have clt := Lib.hid (wtwo (fun w => two_LT a b w ha hb))
  have ceq := Lib.hid (wtwo (fun w => two_EQ a b w ha hb))
  have cgt := Lib.hid (wtwo (fun w => two_GT a b w ha hb))
  have cul := Lib.hid (wtwo (fun w => two_ULT a b w ha hb))
  have cug := Lib.hid (wtwo (fun w => two_UGT a b w ha hb))
  have cle := Lib.hid (wtwo (fun w => two_LE a b w ha hb))
  have cge := Lib.hid (wtwo (fun w => two_GE a b w ha hb))
  have cne := Lib.hid (wtwo (fun w => two_NE a b w ha hb))
  have igt := Lib.hid (wone (one_turn (fun w => one_INV _ w (flg_in _)) (inv_flg (p := b < a) (q := a ≤ b) (by omega)) rfl))
  have ilt := Lib.hid (wone (one_turn (fun w => one_INV _ w (flg_in _)) (inv_flg (p := a < b) (q := b ≤ a) (by omega)) rfl))
  have ieq := Lib.hid (wone (one_turn (fun w => one_INV _ w (flg_in _)) (inv_flg (p := a = b) (q := a ≠ b) (by omega)) rfl))
  have cmin := Lib.hid (wtwo (fun w => two_MIN a b w ha hb))
  have cmax := Lib.hid (wtwo (fun w => two_MAX a b w ha hb))
  have csum := Lib.hid (wtwo (two_turn (fun w => two_ADD _ _ w (min_in ha hb) (max_in ha hb)) (congrArg wrap64 (min_max a b).1) rfl rfl))
  have cord := Lib.hid (wtwo (two_turn (fun w => two_LE _ _ w (min_in ha hb) (max_in ha hb)) (flg_t (min_max a b).2) rfl rfl))
  have hs := bne_f (three (a := a) (b := b) (p := a < b) (q := a = b) (r := b < a) (by omega))
  have hu := bne_f (three (a := a) (b := b) (p := IntKind.u64.wrap a < IntKind.u64.wrap b) (q := a = b) (r := IntKind.u64.wrap b < IntKind.u64.wrap a) (u_three ha hb))
  have he : vE b = 0 := if_neg hz
  have cdiv := Lib.hid (fun w => two_DIV a b w ha hb)
  have cmod := Lib.hid (fun w => two_MOD a b w ha hb)
  rw [he] at cdiv cmod
  have cmul := Lib.hid (wtwo (fun w => two_MUL (vQ a b) b w (vQ_in a b) hb))
  have cback := Lib.hid (wtwo (two_turn (fun w => two_ADD _ _ w (wrap64_range _) (vR_in ha)) (div_back ha hz) rfl rfl))
  have hb0 := beq_f hz
  clear he hz ha hb
  generalize flg (decide (a < b)) = lt at *
  generalize flg (decide (a = b)) = eq at *
  generalize flg (decide (b < a)) = gt at *
  generalize flg (decide (IntKind.u64.wrap a < IntKind.u64.wrap b)) = ul at *
  generalize flg (decide (IntKind.u64.wrap b < IntKind.u64.wrap a)) = ug at *
  generalize flg (decide (a ≤ b)) = le at *
  generalize flg (decide (b ≤ a)) = ge at *
  generalize flg (decide (a ≠ b)) = ne at *
  generalize vMin a b = mn at *
  generalize vMax a b = mx at *
  generalize wrap64 (vQ a b * b) = m at *
  generalize vQ a b = q at *
  generalize vR a b = r at *
  go_enter Try.func6, Try.ntmps6
  go_wp2_with fail
  refine (h0.out _).mono ?_
  rintro e w' ⟨rfl, rfl⟩
  go_wp2_with fail
  refine (clt.out _).mono ?_
  rintro e w' ⟨rfl, rfl⟩
  go_wp2_with fail
  refine (ceq.out _).mono ?_
  rintro e w' ⟨rfl, rfl⟩
  go_wp2_with fail
  refine (cgt.out _).mono ?_
  rintro e w' ⟨rfl, rfl⟩
  go_wp2_with fail
  refine (cul.out _).mono ?_
  rintro e w' ⟨rfl, rfl⟩
  go_wp2_with fail
  refine (ceq.out _).mono ?_
  rintro e w' ⟨rfl, rfl⟩
  go_wp2_with fail
  refine (cug.out _).mono ?_
  rintro e w' ⟨rfl, rfl⟩
  go_wp2_with fail
  refine (cle.out _).mono ?_
  rintro e w' ⟨rfl, rfl⟩
  go_wp2_with fail
  refine (cgt.out _).mono ?_
  rintro e w' ⟨rfl, rfl⟩
  go_wp2_with fail
  refine (igt.out _).mono ?_
  rintro e w' ⟨rfl, rfl⟩
  go_wp2_with fail
  refine (cge.out _).mono ?_
  rintro e w' ⟨rfl, rfl⟩
  go_wp2_with fail
  refine (clt.out _).mono ?_
  rintro e w' ⟨rfl, rfl⟩
  go_wp2_with fail
  refine (ilt.out _).mono ?_
  rintro e w' ⟨rfl, rfl⟩
  go_wp2_with fail
  refine (cne.out _).mono ?_
  rintro e w' ⟨rfl, rfl⟩
  go_wp2_with fail
  refine (ceq.out _).mono ?_
  rintro e w' ⟨rfl, rfl⟩
  go_wp2_with fail
  refine (ieq.out _).mono ?_
  rintro e w' ⟨rfl, rfl⟩
  go_wp2_with fail
  refine (cmin.out _).mono ?_
  rintro e w' ⟨rfl, rfl⟩
  go_wp2_with fail
  refine (cmax.out _).mono ?_
  rintro e w' ⟨rfl, rfl⟩
  go_wp2_with fail
  refine (csum.out _).mono ?_
  rintro e w' ⟨rfl, rfl⟩
  go_wp2_with fail
  refine (cmin.out _).mono ?_
  rintro e w' ⟨rfl, rfl⟩
  go_wp2_with fail
  refine (cmax.out _).mono ?_
  rintro e w' ⟨rfl, rfl⟩
  go_wp2_with fail
  refine (cord.out _).mono ?_
  rintro e w' ⟨rfl, rfl⟩
  go_wp2_with fail
  refine (cdiv.out _).mono ?_
  rintro e w' ⟨rfl, n1, rfl⟩
  go_wp2_with fail
  refine (cmod.out _).mono ?_
  rintro e w' ⟨rfl, n2, rfl⟩
  go_wp2_with fail
  refine (cmul.out _).mono ?_
  rintro e w' ⟨rfl, rfl⟩
  go_wp2_with fail
  refine (cback.out _).mono ?_
  rintro e w' ⟨rfl, rfl⟩
  go_wp2_with fail
  go_ret
  exact ⟨rfl, Joins.below_draws _ _ (n1 + n2)⟩

theorem aluHolds_walk (a b : Int) (ha : (Lit.int .i64 a).wf = true) (hb : (Lit.int .i64 b).wf = true) (w : World) : Calls Try.prog 6 #[.int .i64 a, .int .i64 b] w (Yes w) := by
  by_cases hz : b = 0
  · exact aluHolds_zero a b (in64_wf ha) (in64_wf hb) hz w
  · exact aluHolds_some a b (in64_wf ha) (in64_wf hb) hz w
end Go.Proofs.Ythaoifccdheldaa
