/- The walk of AluSwaps. -/
import Derived.Test.YthaoifccdheldaaW7
namespace Go.Proofs.Ythaoifccdheldaa
open Go.RowKit
set_option linter.unusedVariables false

theorem min_swap (a b : Int) : vMin a b = vMin b a := by unfold vMin; split <;> split <;> omega
theorem max_swap (a b : Int) : vMax a b = vMax b a := by unfold vMax; split <;> split <;> omega
theorem flg_iff {p q : Prop} [Decidable p] [Decidable q] (h : p ↔ q) : flg (decide p) = flg (decide q) := by
  by_cases hp : p
  · rw [flg_t hp, flg_t (h.1 hp)]
  · rw [flg_f hp, flg_f (fun hq => hp (h.2 hq))]

theorem vInv_in {a : Int} (h : In64 a) : In64 (vInv a) := by rw [vInv_eq h]; obtain ⟨h1, h2⟩ := h; exact ⟨by omega, by omega⟩
theorem bv_inv {a : Int} (h : In64 a) : BitVec.ofInt 64 (vInv a) = ~~~ (BitVec.ofInt 64 a) := by
  apply BitVec.eq_of_toNat_eq
  have h1 := ofInt_toNat (vInv a)
  have h2 := ofInt_toNat a
  have h3 := (BitVec.ofInt 64 a).isLt
  rw [BitVec.toNat_not]
  rw [vInv_eq h] at h1 ⊢
  generalize (BitVec.ofInt 64 a).toNat = n at *
  generalize (BitVec.ofInt 64 (-1 - a)).toNat = m at *
  have e5 : (2 : Nat) ^ 64 = 18446744073709551616 := rfl
  rw [e5] at h3 ⊢
  omega
theorem and_of_inv {a b : Int} (ha : In64 a) (hb : In64 b) : vInv (bits .and .i64 (vInv a) (vInv b)) = bits .or .i64 a b := by
  rw [vInv_eq (and_in _ _)]
  have e : bits .and .i64 (vInv a) (vInv b) = IntKind.i64.wrap ((BitVec.ofInt 64 (vInv a) &&& BitVec.ofInt 64 (vInv b)).toNat : Nat) := rfl
  have e2 : bits .or .i64 a b = IntKind.i64.wrap ((BitVec.ofInt 64 a ||| BitVec.ofInt 64 b).toNat : Nat) := rfl
  rw [e, e2, bv_inv ha, bv_inv hb, ← BitVec.not_or, BitVec.toNat_not, wrapI64, wrapI64]
  have h3 := (BitVec.ofInt 64 a ||| BitVec.ofInt 64 b).isLt
  generalize (BitVec.ofInt 64 a ||| BitVec.ofInt 64 b).toNat = n at *
  have e5 : (2 : Nat) ^ 64 = 18446744073709551616 := rfl
  rw [e5] at h3 ⊢
  have e6 : ((18446744073709551616 - 1 - n : Nat) : Int) = 18446744073709551615 - (n : Int) := by omega
  rw [e6]
  generalize (n : Int) = x at *
  unfold wrap64
  omega
theorem sub_add_neg (a b : Int) : wrap64 (a + wrap64 (-b)) = wrap64 (a - b) := by
  have h := wrap64_mod (-b)
  apply wrap64_congr
  generalize wrap64 (-b) = x at *
  omega

theorem vShl_nat (a : Int) (j : Nat) (h : j < 70) : vShl a j = wrap64 (a * 2 ^ min j 64) := by
  unfold vShl
  have e : min (IntKind.u64.wrap (j : Int)).toNat 64 = min j 64 := by rw [wrapU]; omega
  rw [e]
  apply wrap64_congr
  rw [wrapU, wrapU, Int.emod_emod, Int.mul_emod, Int.emod_emod, ← Int.mul_emod]
theorem vShl_zero {a : Int} (h : In64 a) : vShl a 0 = a := by
  have := vShl_nat a 0 (by decide)
  have e : ((0 : Nat) : Int) = 0 := rfl
  rw [e] at this
  rw [this]; simp; exact wrap64_of h
theorem vShl_step (a : Int) (j : Nat) (h : j < 69) : wrap64 (vShl a j * 2) = vShl a ((j + 1 : Nat) : Int) := by
  rw [vShl_nat a j (by omega), vShl_nat a (j + 1) (by omega)]
  by_cases hj : j < 64
  · have e1 : min j 64 = j := by omega
    have e2 : min (j + 1) 64 = j + 1 := by omega
    rw [e1, e2, Int.pow_succ, ← Int.mul_assoc]
    have h3 := wrap64_mod (a * 2 ^ j)
    apply wrap64_congr
    generalize wrap64 (a * 2 ^ j) = x at *
    generalize a * 2 ^ j = y at *
    omega
  · have e1 : min j 64 = 64 := by omega
    have e2 : min (j + 1) 64 = 64 := by omega
    have e : (2 : Int) ^ 64 = 18446744073709551616 := by decide
    rw [e1, e2, e]
    have h3 := wrap64_mod (a * 18446744073709551616)
    apply wrap64_congr
    generalize wrap64 (a * 18446744073709551616) = x at *
    omega

theorem quiet_same {f : FuncId} {args : Array Value} {w : World} {n : Nat} {v : Value} (h : Calls Try.prog f args (w.drewN n) fun e w' => e = .returned v ∧ w.drewN n = w') : Calls Try.prog f args (w.drewN n) fun e w'' => e = .returned v ∧ ∃ m, w'' = w.drewN m :=
  h.mono fun _ _ h => ⟨h.1, n, h.2.symm⟩

def swapNames : List ByteArray := [⟨#[43]⟩, ⟨#[42]⟩, ⟨#[65, 78, 68]⟩, ⟨#[79, 82]⟩, ⟨#[88, 79, 82]⟩, ⟨#[77, 73, 78]⟩, ⟨#[77, 65, 88]⟩, ⟨#[61]⟩, ⟨#[60, 62]⟩]
/-- Each of the names tells the same of a and b as of b and a. -/
theorem swap_each {a b : Int} (ha : In64 a) (hb : In64 b) : ∀ i, i < 9 → ∃ v, (∀ w, Calls Try.prog 23 #[.string (swapNames.getD i ⟨#[]⟩), .int .i64 a, .int .i64 b] w fun e w' => e = .returned (.int .i64 v) ∧ w = w') ∧
    (∀ w, Calls Try.prog 23 #[.string (swapNames.getD i ⟨#[]⟩), .int .i64 b, .int .i64 a] w fun e w' => e = .returned (.int .i64 v) ∧ w = w')
  | 0, _ => ⟨_, wtwo (fun w => two_ADD a b w ha hb), wtwo (two_turn (fun w => two_ADD b a w hb ha) (congrArg wrap64 (Int.add_comm b a)) rfl rfl)⟩
  | 1, _ => ⟨_, wtwo (fun w => two_MUL a b w ha hb), wtwo (two_turn (fun w => two_MUL b a w hb ha) (congrArg wrap64 (Int.mul_comm b a)) rfl rfl)⟩
  | 2, _ => ⟨_, wtwo (fun w => two_AND a b w ha hb), wtwo (two_turn (fun w => two_AND b a w hb ha) (by rw [bits_and, bits_and, Nat.and_comm]) rfl rfl)⟩
  | 3, _ => ⟨_, wtwo (fun w => two_OR a b w ha hb), wtwo (two_turn (fun w => two_OR b a w hb ha) (by rw [bits_or, bits_or, Nat.or_comm]) rfl rfl)⟩
  | 4, _ => ⟨_, wtwo (fun w => two_XOR a b w ha hb), wtwo (two_turn (fun w => two_XOR b a w hb ha) (by rw [bits_xor, bits_xor, Nat.xor_comm]) rfl rfl)⟩
  | 5, _ => ⟨_, wtwo (fun w => two_MIN a b w ha hb), wtwo (two_turn (fun w => two_MIN b a w hb ha) (min_swap b a) rfl rfl)⟩
  | 6, _ => ⟨_, wtwo (fun w => two_MAX a b w ha hb), wtwo (two_turn (fun w => two_MAX b a w hb ha) (max_swap b a) rfl rfl)⟩
  | 7, _ => ⟨_, wtwo (fun w => two_EQ a b w ha hb), wtwo (two_turn (fun w => two_EQ b a w hb ha) (flg_iff (by omega)) rfl rfl)⟩
  | 8, _ => ⟨_, wtwo (fun w => two_NE a b w ha hb), wtwo (two_turn (fun w => two_NE b a w hb ha) (flg_iff (by omega)) rfl rfl)⟩
  | (n + 9), h => absurd h (by omega)
theorem swap_cells (w : World) (i : Nat) (h : i < 9) : (w.alloc (.cells #[.string ⟨#[43]⟩, .string ⟨#[42]⟩, .string ⟨#[65, 78, 68]⟩, .string ⟨#[79, 82]⟩, .string ⟨#[88, 79, 82]⟩, .string ⟨#[77, 73, 78]⟩, .string ⟨#[77, 65, 88]⟩, .string ⟨#[61]⟩, .string ⟨#[60, 62]⟩] 9)).cell? ⟨w.heap.size, i, none⟩ = some (.string (swapNames.getD i ⟨#[]⟩)) := by
  match i, h with
  | 0, _ => simp [swapNames]
  | 1, _ => simp [swapNames]
  | 2, _ => simp [swapNames]
  | 3, _ => simp [swapNames]
  | 4, _ => simp [swapNames]
  | 5, _ => simp [swapNames]
  | 6, _ => simp [swapNames]
  | 7, _ => simp [swapNames]
  | 8, _ => simp [swapNames]

set_option maxRecDepth 8000 in
set_option maxHeartbeats 1600000 in
theorem aluSwaps_in (a b y k : Int) (ha : In64 a) (hb : In64 b) (hy : 0 ≤ y ∧ y < 256) (hk0 : 0 ≤ k) (hk : k < 70) (hyk : y.tmod 70 = k) (w : World) : Calls Try.prog 10 #[.int .i64 a, .int .i64 b, .int .u8 y] w (Yes w) := by
  have h0 := Lib.hid shown_all
  have hsw := Lib.hid (swap_each ha hb)
  have hcl := Lib.hid (swap_cells w)
  have c1 := Lib.hid (wone (fun w => one_INV a w ha))
  have c2 := Lib.hid (wone (fun w => one_INV b w hb))
  have c3 := Lib.hid (wtwo (fun w => two_AND _ _ w (vInv_in ha) (vInv_in hb)))
  have c4 := Lib.hid (wone (one_turn (fun w => one_INV _ w (and_in _ _)) (and_of_inv ha hb) rfl))
  have c5 := Lib.hid (wtwo (fun w => two_OR a b w ha hb))
  have c6 := Lib.hid (wtwo (fun w => two_SHL a k w ha ⟨by omega, by omega⟩))
  have c7 := Lib.hid (wtwo (fun w => two_SUB a b w ha hb))
  have c8 := Lib.hid (wone (fun w => one_NEG b w hb))
  have c9 := Lib.hid (wtwo (two_turn (fun w => two_ADD a _ w ha (wrap64_range _)) (sub_add_neg a b) rfl rfl))
  have hz := Lib.hid (vShl_zero ha)
  clear ha hb
  generalize vInv a = ia at *
  generalize vInv b = ib at *
  generalize bits .and .i64 ia ib = x at *
  generalize bits .or .i64 a b = o at *
  generalize wrap64 (a - b) = d at *
  generalize wrap64 (-b) = n at *
  obtain ⟨y0, y1⟩ := hy
  go_enter Try.func10, Try.ntmps10
  go_wp2_with fail
  refine (h0.out _).mono ?_
  rintro e w' ⟨rfl, rfl⟩
  go_wp2_with fail
  go_loopw [9] (fun v wr => ∃ j m : Nat, j ≤ 9 ∧ v = .int .i64 j ∧ wr = (w.alloc (.cells #[.string ⟨#[43]⟩, .string ⟨#[42]⟩, .string ⟨#[65, 78, 68]⟩, .string ⟨#[79, 82]⟩, .string ⟨#[88, 79, 82]⟩, .string ⟨#[77, 73, 78]⟩, .string ⟨#[77, 65, 88]⟩, .string ⟨#[61]⟩, .string ⟨#[60, 62]⟩] 9)).drewN m) (fun v _ => 9 - (intOf v).toNat)
  case atStart => exact ⟨0, 0, Nat.zero_le _, rfl, rfl⟩
  case round =>
    obtain ⟨j, m, hj, rfl, hwr⟩ := hrel
    have HW := Lib.hid hwr
    by_cases hlt : j < 9
    · obtain ⟨v, d1, d2⟩ := hsw.out j hlt
      have Q1 := Lib.hid (fun n => quiet_same (d1 (wr.drewN n)))
      have Q2 := Lib.hid (fun n => quiet_same (d2 (wr.drewN n)))
      clear d1 d2
      have hc : wr.cell? ⟨w.heap.size, j, none⟩ = some (.string (swapNames.getD j ⟨#[]⟩)) := by rw [hwr]; exact hcl.out j hlt
      clear hwr
      generalize swapNames.getD j ⟨#[]⟩ = s at *
      have hjb : (j : Int) < 9 := by omega
      go_wp2_with fail
      go_quiet (first | with_reducible exact Q1.out _ | with_reducible exact Q2.out _)
      go_wp2_with fail
      go_roundw
      case rel => exact ⟨j + 1, _, by omega, by go_num, by rw [HW.out, World.drewN_drewN]⟩
      case measure => simp [intOf]; omega
    · have hjb : (9 : Int) ≤ (j : Int) := by omega
      clear hwr
      go_wp2_with fail
      go_loop [10, 11] (fun u v => ∃ i : Nat, (i : Int) ≤ k ∧ u = .int .i64 (vShl a i) ∧ v = .int .i64 i) (fun _ v => 70 - (intOf v).toNat)
      case atStart => exact ⟨0, hk0, by rw [show ((0 : Nat) : Int) = 0 from rfl, hz.out], rfl⟩
      case round =>
        obtain ⟨i, hi, rfl, rfl⟩ := hrel
        by_cases hik : (i : Int) < k
        · have c := Lib.hid (wone (one_turn (fun w => one_DBL _ w (shl_range a i)) (vShl_step a i (by omega)) rfl))
          generalize vShl a (i : Int) = u at *
          obtain ⟨u', hu⟩ : ∃ u', u' = vShl a ((i + 1 : Nat) : Int) := ⟨_, rfl⟩
          rw [← hu] at c
          have HU := Lib.hid hu; clear hu
          go_wp2_with fail
          refine (c.out _).mono ?_
          rintro e w' ⟨rfl, rfl⟩
          go_wp2_with fail
          go_round
          case rel => exact ⟨i + 1, by omega, by rw [HU.out], by go_num⟩
          case measure => simp [intOf]; omega
        · have hki : k ≤ (i : Int) := by omega
          have hx : vShl a (i : Int) = vShl a k := by rw [show (i : Int) = k by omega]
          rw [hx]
          clear hx hik
          generalize vShl a k = u at *
          go_wp2_with fail
          refine (c1.out _).mono ?_
          rintro e w' ⟨rfl, rfl⟩
          go_wp2_with fail
          refine (c2.out _).mono ?_
          rintro e w' ⟨rfl, rfl⟩
          go_wp2_with fail
          refine (c3.out _).mono ?_
          rintro e w' ⟨rfl, rfl⟩
          go_wp2_with fail
          refine (c4.out _).mono ?_
          rintro e w' ⟨rfl, rfl⟩
          go_wp2_with fail
          refine (c5.out _).mono ?_
          rintro e w' ⟨rfl, rfl⟩
          go_wp2_with fail
          refine (c6.out _).mono ?_
          rintro e w' ⟨rfl, rfl⟩
          go_wp2_with fail
          refine (c7.out _).mono ?_
          rintro e w' ⟨rfl, rfl⟩
          go_wp2_with fail
          refine (c8.out _).mono ?_
          rintro e w' ⟨rfl, rfl⟩
          go_wp2_with fail
          refine (c9.out _).mono ?_
          rintro e w' ⟨rfl, rfl⟩
          go_wp2
          go_ret
          exact ⟨rfl, by rw [HW.out]; exact ((Below.refl _ w).alloc (Nat.le_refl _) _).trans (Joins.below_draws _ _ m)⟩
theorem aluSwaps_walk (a b y : Int) (ha : (Lit.int .i64 a).wf = true) (hb : (Lit.int .i64 b).wf = true) (hy : (Lit.int .u8 y).wf = true) (w : World) : Calls Try.prog 10 #[.int .i64 a, .int .i64 b, .int .u8 y] w (Yes w) := by
  have h := u8_wf hy
  have h1 := Int.tmod_nonneg (a := y) 70 h.1
  have h2 := Int.tmod_lt_of_pos y (b := 70) (by decide)
  exact aluSwaps_in a b y _ (in64_wf ha) (in64_wf hb) h h1 h2 rfl w
end Go.Proofs.Ythaoifccdheldaa
