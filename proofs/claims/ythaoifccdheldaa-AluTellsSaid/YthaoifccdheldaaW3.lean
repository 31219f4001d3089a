/- The walk of AluTells. -/
import Derived.Test.YthaoifccdheldaaShown
import Derived.Laws.OwnMore
import Derived.Maps.AppendAt
namespace Go.Proofs.Ythaoifccdheldaa
open Go.RowKit
set_option linter.unusedVariables false

theorem Try.info9 : (Try.prog.info? 9).map (fun i => (i.zero, i.size, i.bytes)) = some (some (.string ⟨#[]⟩), 1, 16) := by kernel_rfl
theorem below_then {w a b : World} (h : Below w.heap.size w a) (k : Below a.heap.size a b) : Below w.heap.size w b := h.trans (k.mono h.size)

/-- A value that is a slice whose n elements are these texts. -/
def Row (w : World) (v : Value) (n : Nat) (xs : List ByteArray) : Prop := ∃ g c, v = .slice (some ⟨g, 0, none⟩) n c ∧ ∀ i, i < n → w.cell? ⟨g, i, none⟩ = some (.string (xs.getD i ⟨#[]⟩))
theorem row_of {w : World} {base n : Nat} {v : Value} {xs : List ByteArray} (h : w.ownsRow base 9 1 v n (xs.map Value.string)) (hn : 0 < n) (hl : n ≤ xs.length) : Row w v n xs := by
  rcases h.2 with ⟨rfl, h0⟩ | ⟨g, cap, cur, rfl, _⟩
  · omega
  · refine ⟨g, cap, rfl, fun i hi => ?_⟩
    have := h.cellAt i (by omega)
    rw [this, List.getElem?_map, List.getElem?_eq_getElem (by omega), List.getD_eq_getElem?_getD, List.getElem?_eq_getElem (by omega)]
    rfl

def names1 : List ByteArray := [⟨#[78, 69, 71, 65, 84, 69]⟩, ⟨#[65, 66, 83]⟩, ⟨#[73, 78, 86, 69, 82, 84]⟩, ⟨#[49, 43]⟩, ⟨#[49, 45]⟩, ⟨#[50, 42]⟩, ⟨#[50, 47]⟩, ⟨#[48, 61]⟩, ⟨#[48, 60]⟩, ⟨#[48, 60, 62]⟩, ⟨#[48, 62]⟩, ⟨#[67, 69, 76, 76, 83]⟩, ⟨#[67, 69, 76, 76, 43]⟩, ⟨#[65, 76, 73, 71, 78, 69, 68]⟩]
theorem names1_any (w : World) : Calls Try.prog 12 #[] w fun e w' => ∃ v, e = .returned v ∧ w'.ownsRow w.heap.size 9 1 v 14 (names1.map Value.string) ∧ Below w.heap.size w w' := by
  go_enter Try.func12, Try.ntmps12
  go_wp2
  go_ret
  exact ⟨_, rfl, World.ownsRow_lit w _ 14 (Nat.le_refl _) (by decide) rfl, (Below.refl _ w).alloc (Nat.le_refl _) _⟩

def names2 : List ByteArray := [⟨#[43]⟩, ⟨#[45]⟩, ⟨#[42]⟩, ⟨#[47]⟩, ⟨#[77, 79, 68]⟩, ⟨#[65, 78, 68]⟩, ⟨#[79, 82]⟩, ⟨#[88, 79, 82]⟩, ⟨#[76, 83, 72, 73, 70, 84]⟩, ⟨#[82, 83, 72, 73, 70, 84]⟩, ⟨#[77, 73, 78]⟩, ⟨#[77, 65, 88]⟩, ⟨#[61]⟩, ⟨#[60, 62]⟩, ⟨#[60]⟩, ⟨#[62]⟩, ⟨#[60, 61]⟩, ⟨#[62, 61]⟩, ⟨#[85, 60]⟩, ⟨#[85, 62]⟩]
theorem names2_any (w : World) : Calls Try.prog 15 #[] w fun e w' => ∃ v, e = .returned v ∧ w'.ownsRow w.heap.size 9 1 v 20 (names2.map Value.string) ∧ Below w.heap.size w w' := by
  go_enter Try.func15, Try.ntmps15
  go_wp2
  go_ret
  exact ⟨_, rfl, World.ownsRow_lit w _ 20 (Nat.le_refl _) (by decide) rfl, (Below.refl _ w).alloc (Nat.le_refl _) _⟩

set_option maxHeartbeats 400000 in
theorem aluTells_great (s : ByteArray) (a b : Int) (w : World) (hs : 20 < (s.size : Int)) : Calls Try.prog 3 #[.string s, .int .i64 a, .int .i64 b] w (Yes w) := by
  go_enter Try.func3, Try.ntmps3
  go_wp2_with fail
  refine (shown_all _).mono ?_
  rintro e w' ⟨rfl, rfl⟩
  go_wp2_with fail
  go_ret
  exact ⟨rfl, Below.refl _ _⟩

set_option maxRecDepth 8000 in
set_option maxHeartbeats 1600000 in
theorem aluTells_in (s : ByteArray) (a b : Int) (ha : In64 a) (hb : In64 b) (w : World) (hs : (s.size : Int) ≤ 20) : Calls Try.prog 3 #[.string s, .int .i64 a, .int .i64 b] w (Yes w) := by
  obtain ⟨i0, hi, hz0, hz1, hz2⟩ := info_parts Try.info9
  have HA := Lib.hid ha; clear ha
  have HB := Lib.hid hb; clear hb
  go_enter Try.func3, Try.ntmps3
  go_wp2_with fail
  refine (shown_all _).mono ?_
  rintro e w' ⟨rfl, rfl⟩
  go_wp2_with fail
  refine (names1_any _).mono ?_
  rintro e w1 ⟨v, rfl, hown, hB⟩
  go_wp2_with (at_builtin; refine wpList_append_own _ rfl _ _ 23 rfl w.heap.size 9 i0 (.string ⟨#[]⟩) 1 16 Try.underlying23 hi hz0 hz1 hz2 rfl (by decide) _ _ _ rfl (hown.alloc _) ⟨w1.heap.size, 0, none⟩ 1 1 [.string s] rfl rfl (cell_one_new _ _ _) (by simp [Value.oneCell']) (by unfold maxLen; omega) (by omega) (by have := hB.size; simp; omega) ?_; intro v' w2 hown' hgrow _)
  have h2 : Below w.heap.size w w2 := (hB.alloc hB.size _).grown hgrow (by have := hB.size; simp; omega) (fun q hq => (hown.lt q hq).1)
  obtain ⟨g, c, rfl, hrow⟩ := row_of (n := 15) (xs := names1 ++ [s]) (by rw [List.map_append]; exact hown') (by decide) (by simp [names1])
  have HR := Lib.hid hrow
  clear hrow hown hown' hgrow hB
  go_wp2_with fail
  go_loop [9] (fun v => ∃ k : Nat, k ≤ 15 ∧ v = .int .i64 k) (fun v => 15 - (intOf v).toNat)
  case atStart => exact ⟨0, Nat.zero_le _, rfl⟩
  case round =>
    obtain ⟨k, hk, rfl⟩ := hrel
    by_cases hlt : k < 15
    · have hc := HR.out k hlt
      generalize (names1 ++ [s]).getD k ⟨#[]⟩ = x at *
      have H1 := Lib.hid (fun w => one_any x a w HA.out)
      have H2 := Lib.hid (fun w => rone_any x a w HA.out)
      generalize oneV x a = r at *
      generalize oneB x = p at *
      have hkb : (k : Int) < 15 := by omega
      go_wp2_with fail
      refine (H1.out _).mono ?_
      rintro e w' ⟨rfl, rfl⟩
      go_wp2_with fail
      refine (H2.out _).mono ?_
      rintro e w' ⟨rfl, rfl⟩
      go_wp2_with fail
      go_round
      case rel => exact ⟨k + 1, by omega, by go_num⟩
      case measure => simp [intOf]; omega
    · have hkb : (15 : Int) ≤ (k : Int) := by omega
      clear HR
      go_wp2_with fail
      refine (names2_any _).mono ?_
      rintro e w3 ⟨v, rfl, hown, hB⟩
      go_wp2_with (at_builtin; refine wpList_append_own _ rfl _ _ 23 rfl w2.heap.size 9 i0 (.string ⟨#[]⟩) 1 16 Try.underlying23 hi hz0 hz1 hz2 rfl (by decide) _ _ _ rfl (hown.alloc _) ⟨w3.heap.size, 0, none⟩ 1 1 [.string s] rfl rfl (cell_one_new _ _ _) (by simp [Value.oneCell']) (by unfold maxLen; omega) (by omega) (by have := hB.size; simp; omega) ?_; intro v' w4 hown' hgrow _)
      have h4 : Below w.heap.size w w4 := below_then h2 ((hB.alloc hB.size _).grown hgrow (by have := hB.size; simp; omega) (fun q hq => (hown.lt q hq).1))
      obtain ⟨g2, c2, rfl, hrow⟩ := row_of (n := 21) (xs := names2 ++ [s]) (by rw [List.map_append]; exact hown') (by decide) (by simp [names2])
      have HR := Lib.hid hrow
      clear hrow hown hown' hgrow hB h2
      go_wp2_with fail
      go_loopw [15] (fun v wr => ∃ k m : Nat, k ≤ 21 ∧ v = .int .i64 k ∧ wr = w4.drewN m) (fun v _ => 21 - (intOf v).toNat)
      case atStart => exact ⟨0, 0, Nat.zero_le _, rfl, rfl⟩
      case round =>
        obtain ⟨j, m, hj, rfl, rfl⟩ := hrel
        by_cases hjt : j < 21
        · have hc := HR.out j hjt
          generalize (names2 ++ [s]).getD j ⟨#[]⟩ = x at *
          have H1 := Lib.hid (fun w => two_any x a b w HA.out HB.out)
          have H2 := Lib.hid (fun w => rtwo_any x a b w HA.out HB.out)
          generalize twoV x a b = r at *
          generalize twoB x = p at *
          generalize twoE x b = f at *
          have hjb : (j : Int) < 21 := by omega
          go_wp2_with fail
          refine (H1.out _).mono ?_
          rintro e w' ⟨rfl, m1, rfl⟩
          go_wp2_with fail
          refine (H2.out _).mono ?_
          rintro e w' ⟨rfl, m2, rfl⟩
          go_wp2_with fail
          go_roundw
          case rel => exact ⟨j + 1, _, by omega, by go_num, rfl⟩
          case measure => simp [intOf]; omega
        · have hjb : (21 : Int) ≤ (j : Int) := by omega
          clear HR
          go_wp2_with fail
          go_ret
          exact ⟨rfl, h4.trans (Joins.below_draws _ _ m)⟩
theorem aluTells_walk (s : ByteArray) (a b : Int) (hs : s.size ≤ maxLen) (ha : (Lit.int .i64 a).wf = true) (hb : (Lit.int .i64 b).wf = true) (w : World) : Calls Try.prog 3 #[.string s, .int .i64 a, .int .i64 b] w (Yes w) := by
  by_cases h : 20 < (s.size : Int)
  · exact aluTells_great s a b w h
  · exact aluTells_in s a b (in64_wf ha) (in64_wf hb) w (by omega)
end Go.Proofs.Ythaoifccdheldaa
