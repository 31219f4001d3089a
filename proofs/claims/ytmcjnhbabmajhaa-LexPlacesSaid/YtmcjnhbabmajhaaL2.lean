/- The walk of the statement LexPlaces: at every text, place and sign it tells yes. -/
import Derived.Test.YtmcjnhbabmajhaaL1
namespace Go.Proofs.Ytmcjnhbabmajhaa
open Go.RowKit
set_option linter.unusedVariables false

theorem wa_end (s : ByteArray) : Lex.wa s s.size = ⟨#[]⟩ := by
  apply Lex.lst_inj; rw [Lex.lst_wa, Lex.drop_end s _ (Nat.le_refl _)]; rfl
theorem na_last (s : ByteArray) : Lex.na s s.size = s.size := Lex.na_end s _ (Nat.le_refl _) (by rw [wa_end]; rfl)
theorem uw_end (s : ByteArray) (c : UInt8) : Lex.uw s s.size c = ⟨#[]⟩ := by
  apply Lex.lst_inj; unfold Lex.uw; rw [Lex.lst_extract, Lex.drop_end s _ (Nat.le_refl _), List.take_nil]; rfl
theorem ua_last (s : ByteArray) (c : UInt8) : Lex.ua s s.size c = s.size := Lex.ua_end s _ c (Nat.le_refl _)

set_option maxHeartbeats 400000 in
theorem lexPlaces_great (s : ByteArray) (a c : Int) (w : World) (hs : 200 < (s.size : Int)) :
    Calls Try.prog 7 #[.string s, .int .i64 a, .int .u8 c] w (Yes w) := by
  go_enter Try.func7, Try.ntmps7
  go_wp2_with fail
  refine (shown_any _).mono ?_
  rintro e w1 ⟨rfl, hB⟩
  go_wp2_with fail
  go_ret
  exact ⟨rfl, hB⟩

set_option maxHeartbeats 800000 in
theorem lexPlaces_out (s : ByteArray) (a : Int) (c : UInt8) (w : World) (hs : (s.size : Int) ≤ 200) (ha : a < 0 ∨ (0 ≤ a ∧ (s.size : Int) < a)) :
    Calls Try.prog 7 #[.string s, .int .i64 a, .int .u8 (c.toNat : Int)] w (Yes w) := by
  have hst : Lex.st s a = s.size := by unfold Lex.st; rw [if_pos (by omega)]
  have c10 : ∀ w, Calls Try.prog 10 #[.string s, .int .i64 a] w fun e w' => e = .returned (.tuple #[.string ⟨#[]⟩, .int .i64 (s.size : Int)]) ∧ w = w' := fun w => by
    have h := word_any s a w (by omega)
    rw [hst, wa_end, na_last] at h; exact h
  have c12 : ∀ w, Calls Try.prog 12 #[.string s, .int .i64 a, .int .u8 (c.toNat : Int)] w fun e w' => e = .returned (.tuple #[.string ⟨#[]⟩, .int .i64 (s.size : Int), .bool false]) ∧ w = w' := fun w => by
    have h := upto_any s a c w (by omega)
    unfold Lex.un Lex.ub at h
    rw [hst, uw_end, ua_last, if_neg (by omega), decide_eq_false (by omega)] at h; exact h
  have C10 := Lib.hid c10
  have C12 := Lib.hid c12
  clear c10 c12 hst
  rcases ha with ha | ⟨ha0, ha⟩
  all_goals
    go_enter Try.func7, Try.ntmps7
    go_wp2_with fail
    refine (shown_any _).mono ?_
    rintro e w1 ⟨rfl, hB⟩
    go_wp2_with fail
    refine (C10.out _).mono ?_
    rintro e w' ⟨rfl, rfl⟩
    go_wp2_with fail
    refine (C12.out _).mono ?_
    rintro e w' ⟨rfl, rfl⟩
    go_wp2_with fail
    go_ret
    exact ⟨rfl, hB⟩

set_option maxHeartbeats 800000 in
theorem lexPlaces_in (s : ByteArray) (k : Nat) (c : UInt8) (w : World) (hs : (s.size : Int) ≤ 200) (hk : k ≤ s.size) :
    Calls Try.prog 7 #[.string s, .int .i64 (k : Int), .int .u8 (c.toNat : Int)] w (Yes w) := by
  have hsz := Lex.size_tail s k
  have c10 : ∀ w, Calls Try.prog 10 #[.string s, .int .i64 (k : Int)] w fun e w' => e = .returned (.tuple #[.string (Lex.wa s k), .int .i64 ((Lex.na (s.extract k s.size) 0 : Nat) + (k : Int))]) ∧ w = w' := fun w => by
    have h := word_at s k w (by omega) hk
    rw [← Lex.na_tail s k hk] at h
    have e : ((Lex.na (s.extract k s.size) 0 + k : Nat) : Int) = (Lex.na (s.extract k s.size) 0 : Nat) + (k : Int) := by omega
    rw [e] at h; exact h
  have d10 : ∀ w, Calls Try.prog 10 #[.string (s.extract k s.size), .int .i64 0] w fun e w' => e = .returned (.tuple #[.string (Lex.wa s k), .int .i64 (Lex.na (s.extract k s.size) 0 : Nat)]) ∧ w = w' := fun w => by
    have h := word_at (s.extract k s.size) 0 w (by omega) (by omega)
    rw [Lex.wa_tail] at h; exact h
  have hu := Lex.ua_tail s k c
  have hul := Lex.ua_le (s.extract k s.size) 0 c (by omega)
  have huw : Lex.uw (s.extract k s.size) 0 c = Lex.uw s k c := by
    apply Lex.lst_inj; unfold Lex.uw; rw [Lex.lst_extract, Lex.lst_tail, Lex.lst_extract, ← hu]; simp
  have hun : Lex.un s k c = Lex.un (s.extract k s.size) 0 c + k := by
    unfold Lex.un; rw [← hu, hsz]
    by_cases h : Lex.ua (s.extract k s.size) 0 c < s.size - k
    · rw [if_pos (by omega), if_pos h]; omega
    · rw [if_neg (by omega), if_neg h]; omega
  have hub : Lex.ub (s.extract k s.size) 0 c = Lex.ub s k c := by
    unfold Lex.ub; rw [← hu, hsz]; by_cases h : Lex.ua (s.extract k s.size) 0 c < s.size - k
    · rw [decide_eq_true h, decide_eq_true (by omega)]
    · rw [decide_eq_false h, decide_eq_false (by omega)]
  have c12 : ∀ w, Calls Try.prog 12 #[.string s, .int .i64 (k : Int), .int .u8 (c.toNat : Int)] w fun e w' => e = .returned (.tuple #[.string (Lex.uw s k c), .int .i64 ((Lex.un (s.extract k s.size) 0 c : Nat) + (k : Int)), .bool (Lex.ub s k c)]) ∧ w = w' := fun w => by
    have h := upto_any s k c w (by omega)
    rw [st_nat s k hk, hun] at h
    have e : ((Lex.un (s.extract k s.size) 0 c + k : Nat) : Int) = (Lex.un (s.extract k s.size) 0 c : Nat) + (k : Int) := by omega
    rw [e] at h; exact h
  have d12 : ∀ w, Calls Try.prog 12 #[.string (s.extract k s.size), .int .i64 0, .int .u8 (c.toNat : Int)] w fun e w' => e = .returned (.tuple #[.string (Lex.uw s k c), .int .i64 (Lex.un (s.extract k s.size) 0 c : Nat), .bool (Lex.ub s k c)]) ∧ w = w' := fun w => by
    have h := upto_any (s.extract k s.size) ((0 : Nat) : Int) c w (by omega)
    rw [st_nat _ 0 (by omega), huw, hub] at h; exact h
  have n1 : Lex.na (s.extract k s.size) 0 ≤ 200 := by have := Lex.na_le (s.extract k s.size) 0; omega
  have n2 : Lex.un (s.extract k s.size) 0 c ≤ 200 := by unfold Lex.un; split <;> omega
  clear hsz hu hul huw hun hub
  generalize Lex.na (s.extract k s.size) 0 = m at *
  generalize Lex.un (s.extract k s.size) 0 c = q at *
  generalize Lex.wa s k = v at *
  generalize Lex.uw s k c = u at *
  generalize Lex.ub s k c = b at *
  have C10 := Lib.hid c10
  have C12 := Lib.hid c12
  have D10 := Lib.hid d10
  have D12 := Lib.hid d12
  clear c10 c12 d10 d12
  go_enter Try.func7, Try.ntmps7
  go_wp2_with fail
  refine (shown_any _).mono ?_
  rintro e w1 ⟨rfl, hB⟩
  go_wp2_with fail
  refine (C10.out _).mono ?_
  rintro e w' ⟨rfl, rfl⟩
  go_wp2_with fail
  refine (C12.out _).mono ?_
  rintro e w' ⟨rfl, rfl⟩
  go_wp2_with fail
  refine (D10.out _).mono ?_
  rintro e w' ⟨rfl, rfl⟩
  go_wp2_with fail
  refine (D12.out _).mono ?_
  rintro e w' ⟨rfl, rfl⟩
  go_wp2_with fail
  go_ret
  exact ⟨rfl, hB⟩

theorem lexPlaces_walk (s : ByteArray) (a c : Int) (w0 : s.size ≤ maxLen) (w1 : (Lit.int .i64 a).wf = true) (w2 : (Lit.int .u8 c).wf = true) (w : World) :
    Calls Try.prog 7 #[.string s, .int .i64 a, .int .u8 c] w (Yes w) := by
  by_cases hs : 200 < (s.size : Int)
  · exact lexPlaces_great s a c w hs
  · obtain ⟨c, rfl⟩ := u8_of w2
    by_cases ha : a < 0 ∨ (0 ≤ a ∧ (s.size : Int) < a)
    · exact lexPlaces_out s a c w (by omega) ha
    · obtain ⟨k, rfl⟩ : ∃ k : Nat, a = (k : Int) := ⟨a.toNat, by omega⟩
      exact lexPlaces_in s k c w (by omega) (by omega)
end Go.Proofs.Ytmcjnhbabmajhaa
