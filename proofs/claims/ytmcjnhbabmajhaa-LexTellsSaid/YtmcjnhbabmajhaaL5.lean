/- The walk of the statement LexTells: at every two texts, place and sign it tells yes. -/
import Derived.Test.YtmcjnhbabmajhaaL1
namespace Go.Proofs.Ytmcjnhbabmajhaa
open Go.RowKit
set_option linter.unusedVariables false

set_option maxHeartbeats 400000 in
theorem lexTells_great1 (s t : ByteArray) (a c : Int) (w : World) (hs : 200 < (s.size : Int)) : Calls Try.prog 3 #[.agg #[.string s, .string t, .int .i64 a, .int .u8 c]] w (Yes w) := by
  go_enter Try.func3, Try.ntmps3
  go_wp2_with fail
  refine (shown_any _).mono ?_
  rintro e w1 ⟨rfl, hB⟩
  go_wp2_with fail
  go_ret
  exact ⟨rfl, below_then ((Below.refl _ w).alloc (Nat.le_refl _) _) hB⟩
set_option maxHeartbeats 400000 in
theorem lexTells_great2 (s t : ByteArray) (a c : Int) (w : World) (hs : (s.size : Int) ≤ 200) (ht : 200 < (t.size : Int)) : Calls Try.prog 3 #[.agg #[.string s, .string t, .int .i64 a, .int .u8 c]] w (Yes w) := by
  go_enter Try.func3, Try.ntmps3
  go_wp2_with fail
  refine (shown_any _).mono ?_
  rintro e w1 ⟨rfl, hB⟩
  go_wp2_with fail
  go_ret
  exact ⟨rfl, below_then ((Below.refl _ w).alloc (Nat.le_refl _) _) hB⟩

set_option maxHeartbeats 1600000 in
theorem lexTells_in (s t : ByteArray) (a : Int) (c : UInt8) (w : World) (hs : (s.size : Int) ≤ 200) (ht : (t.size : Int) ≤ 200) : Calls Try.prog 3 #[.agg #[.string s, .string t, .int .i64 a, .int .u8 (c.toNat : Int)]] w (Yes w) := by
  have c10 := fun w => word_any s a w (by omega)
  have c11 := fun w => rword_any s a w (by omega)
  have c12 := fun w => upto_any s a c w (by omega)
  have c13 := fun w => rupto_any s a c w (by omega)
  generalize Lex.wa s (Lex.st s a) = x at *
  generalize Lex.na s (Lex.st s a) = n at *
  generalize Lex.uw s (Lex.st s a) c = y at *
  generalize Lex.un s (Lex.st s a) c = m at *
  generalize Lex.ub s (Lex.st s a) c = b at *
  have C10 := Lib.hid c10
  have C11 := Lib.hid c11
  have C12 := Lib.hid c12
  have C13 := Lib.hid c13
  have hwl := Lex.ws_length s
  have hbb : eqs (Lex.ws s) (Lex.ws s) = true := by unfold eqs; simp
  have HBB := Lib.hid hbb
  clear c10 c11 c12 c13 hbb
  go_enter Try.func3, Try.ntmps3
  go_wp2_with fail
  refine (shown_any _).mono ?_
  rintro e w1 ⟨rfl, hB⟩
  have h1 : Below w.heap.size w w1 := below_then ((Below.refl _ w).alloc (Nat.le_refl _) _) hB
  clear hB
  go_wp2_with fail
  refine (C10.out _).mono ?_
  rintro e w' ⟨rfl, rfl⟩
  go_wp2_with fail
  refine (C11.out _).mono ?_
  rintro e w' ⟨rfl, rfl⟩
  go_wp2_with fail
  refine (C12.out _).mono ?_
  rintro e w' ⟨rfl, rfl⟩
  go_wp2_with fail
  refine (C13.out _).mono ?_
  rintro e w' ⟨rfl, rfl⟩
  go_wp2_with fail
  refine (words_any s _ (by omega)).mono ?_
  rintro e w2 ⟨v, rfl, hown, hB2⟩
  have hv := strs_of_owns hown
  clear hown
  go_wp2_with fail
  refine (rwords_any s _ (by omega)).mono ?_
  rintro e w3 ⟨v', rfl, hown', hB3⟩
  have hv' := strs_of_owns hown'
  clear hown'
  go_wp2_with fail
  refine (same_any _ _ _ _ _ (hv.below hB3) hv' (by omega) (by omega)).mono ?_
  rw [HBB.out]
  rintro e w4 ⟨rfl, k, rfl⟩
  clear hv hv'
  have h4 : Below w.heap.size w (w3.drewN k) := below_drewN (below_then (below_then h1 hB2) hB3) k
  clear h1 hB2 hB3
  go_wp2_with fail
  refine (upper_any s _ (by omega)).mono ?_
  rintro e w5 ⟨rfl, hB5⟩
  go_wp2_with fail
  refine (rupper_any s _ (by omega)).mono ?_
  rintro e w6 ⟨rfl, hB6⟩
  go_wp2_with fail
  refine (alike_any s t _ (by omega) (by omega)).mono ?_
  rintro e w7 ⟨rfl, hB7⟩
  go_wp2_with fail
  refine (ralike_any s t _ (by omega) (by omega)).mono ?_
  rintro e w8 ⟨rfl, hB8⟩
  go_wp2_with fail
  go_ret
  exact ⟨rfl, below_then (below_then (below_then (below_then h4 hB5) hB6) hB7) hB8⟩

theorem lexTells_walk (s t : ByteArray) (a c : Int) (w0 : s.size ≤ maxLen) (w1 : t.size ≤ maxLen) (w2 : (Lit.int .i64 a).wf = true) (w3 : (Lit.int .u8 c).wf = true) (w : World) :
    Calls Try.prog 3 #[.agg #[.string s, .string t, .int .i64 a, .int .u8 c]] w (Yes w) := by
  obtain ⟨c, rfl⟩ := u8_of w3
  by_cases hs : 200 < (s.size : Int)
  · exact lexTells_great1 s t a _ w hs
  · by_cases ht : 200 < (t.size : Int)
    · exact lexTells_great2 s t a _ w (by omega) ht
    · exact lexTells_in s t a c w (by omega) (by omega)
end Go.Proofs.Ytmcjnhbabmajhaa
