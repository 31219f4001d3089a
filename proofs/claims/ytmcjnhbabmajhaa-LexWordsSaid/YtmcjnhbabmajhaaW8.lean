/- The walk of the statements' head, shown: the document's examples hold. -/
import Derived.Test.YtmcjnhbabmajhaaW6
import Derived.Test.YtmcjnhbabmajhaaW7
namespace Go.Proofs.Ytmcjnhbabmajhaa
open Go.RowKit
set_option linter.unusedVariables false

theorem ex_upto : Lex.uw ⟨#[97, 98, 34, 32, 99]⟩ (Lex.st ⟨#[97, 98, 34, 32, 99]⟩ 0) 34 = ⟨#[97, 98]⟩ ∧ Lex.un ⟨#[97, 98, 34, 32, 99]⟩ (Lex.st ⟨#[97, 98, 34, 32, 99]⟩ 0) 34 = 3 ∧ Lex.ub ⟨#[97, 98, 34, 32, 99]⟩ (Lex.st ⟨#[97, 98, 34, 32, 99]⟩ 0) 34 = true := by decide +kernel
theorem ex_word : Lex.wa ⟨#[32, 32, 97, 98, 32, 99, 100]⟩ (Lex.st ⟨#[32, 32, 97, 98, 32, 99, 100]⟩ 0) = ⟨#[97, 98]⟩ ∧ Lex.na ⟨#[32, 32, 97, 98, 32, 99, 100]⟩ (Lex.st ⟨#[32, 32, 97, 98, 32, 99, 100]⟩ 0) = 5 := by decide +kernel
theorem ex_words : eqs (Lex.ws ⟨#[58, 32, 120, 32, 49, 32, 59]⟩) [⟨#[58]⟩, ⟨#[120]⟩, ⟨#[49]⟩, ⟨#[59]⟩] = true := by decide +kernel
theorem ex_upper : Lex.upper ⟨#[97, 90, 49, 233]⟩ = ⟨#[65, 90, 49, 233]⟩ := by decide +kernel
theorem lex_alike : alike ⟨#[68, 117, 112]⟩ ⟨#[100, 85, 80]⟩ = true ∧ alike ⟨#[97]⟩ ⟨#[98]⟩ = false := by
  have e1 : Lex.upper ⟨#[68, 117, 112]⟩ = ⟨#[68, 85, 80]⟩ := by decide +kernel
  have e2 : Lex.upper ⟨#[100, 85, 80]⟩ = ⟨#[68, 85, 80]⟩ := by decide +kernel
  have e3 : Lex.upper ⟨#[97]⟩ = ⟨#[65]⟩ := by decide +kernel
  have e4 : Lex.upper ⟨#[98]⟩ = ⟨#[66]⟩ := by decide +kernel
  unfold alike
  rw [e1, e2, e3, e4]
  simp [ByteArray.toList_eq]

/-- It tells yes, and nothing that lay has turned. -/
def Yes (w : World) (e : Ending) (w' : World) : Prop := e = .returned (.bool true) ∧ Below w.heap.size w w'

theorem strs_four (w : World) (a b c d : ByteArray) : Strs (w.alloc (.cells #[.string a, .string b, .string c, .string d] 9)) (.slice (some ⟨w.heap.size, 0, none⟩) 4 4) [a, b, c, d] := by
  refine Or.inr ⟨w.heap.size, 0, 4, rfl, by simp, fun i hi => ?_⟩
  have hi' : i < 4 := hi
  match i, hi' with
  | 0, _ => simp
  | 1, _ => simp
  | 2, _ => simp
  | 3, _ => simp

set_option maxHeartbeats 400000 in
theorem shown_any (w : World) : Calls Try.prog 9 #[] w (Yes w) := by
  have c1 : ∀ w, Calls Try.prog 12 #[.string ⟨#[97, 98, 34, 32, 99]⟩, .int .i64 0, .int .u8 34] w fun e w' => e = .returned (.tuple #[.string ⟨#[97, 98]⟩, .int .i64 3, .bool true]) ∧ w = w' := fun w => by
    have h := upto_any ⟨#[97, 98, 34, 32, 99]⟩ 0 34 w (by decide)
    rw [ex_upto.1, ex_upto.2.1, ex_upto.2.2] at h; exact h
  have c2 : ∀ w, Calls Try.prog 10 #[.string ⟨#[32, 32, 97, 98, 32, 99, 100]⟩, .int .i64 0] w fun e w' => e = .returned (.tuple #[.string ⟨#[97, 98]⟩, .int .i64 5]) ∧ w = w' := fun w => by
    have h := word_any ⟨#[32, 32, 97, 98, 32, 99, 100]⟩ 0 w (by decide)
    rw [ex_word.1, ex_word.2] at h; exact h
  have c3 : ∀ w, Calls Try.prog 17 #[.string ⟨#[97, 90, 49, 233]⟩] w fun e w' => e = .returned (.string ⟨#[65, 90, 49, 233]⟩) ∧ Below w.heap.size w w' := fun w => by
    have h := upper_any ⟨#[97, 90, 49, 233]⟩ w (by decide)
    unfold MadeUpper at h
    rw [ex_upper] at h; exact h
  have c4 : ∀ w, Calls Try.prog 19 #[.string ⟨#[68, 117, 112]⟩, .string ⟨#[100, 85, 80]⟩] w fun e w' => e = .returned (.bool true) ∧ Below w.heap.size w w' := fun w => by
    have h := alike_any ⟨#[68, 117, 112]⟩ ⟨#[100, 85, 80]⟩ w (by decide) (by decide)
    unfold ToldAlike at h
    rw [lex_alike.1] at h; exact h
  have c5 : ∀ w, Calls Try.prog 19 #[.string ⟨#[97]⟩, .string ⟨#[98]⟩] w fun e w' => e = .returned (.bool false) ∧ Below w.heap.size w w' := fun w => by
    have h := alike_any ⟨#[97]⟩ ⟨#[98]⟩ w (by decide) (by decide)
    unfold ToldAlike at h
    rw [lex_alike.2] at h; exact h
  have HC3 := Lib.hid c3; clear c3
  have HC4 := Lib.hid c4; clear c4
  have HC5 := Lib.hid c5; clear c5
  have HC1 := Lib.hid c1; clear c1
  have HC2 := Lib.hid c2; clear c2
  go_enter Try.func9, Try.ntmps9
  go_wp2_with fail
  refine (HC1.out _).mono ?_
  rintro e w' ⟨rfl, rfl⟩
  go_wp2_with fail
  refine (HC2.out _).mono ?_
  rintro e w' ⟨rfl, rfl⟩
  go_wp2_with fail
  refine (words_any _ _ (by decide)).mono ?_
  rintro e w1 ⟨v, rfl, hown, hB1⟩
  have hs1 := strs_of_owns hown
  clear hown
  go_wp2_with fail
  refine (same_any _ _ _ _ _ (hs1.below ((Below.refl _ w1).alloc (Nat.le_refl _) _)) (strs_four w1 _ _ _ _) (by decide) (by decide)).mono ?_
  rw [ex_words]
  rintro e w2 ⟨rfl, m, rfl⟩
  go_wp2_with fail
  refine (HC3.out _).mono ?_
  rintro e w3 ⟨rfl, hB3⟩
  go_wp2_with fail
  refine (HC4.out _).mono ?_
  rintro e w4 ⟨rfl, hB4⟩
  go_wp2_with fail
  refine (HC5.out _).mono ?_
  rintro e w5 ⟨rfl, hB5⟩
  go_wp2_with fail
  go_ret
  have h2 : Below w.heap.size w ((w1.alloc (.cells #[.string ⟨#[58]⟩, .string ⟨#[120]⟩, .string ⟨#[49]⟩, .string ⟨#[59]⟩] 9)).drewN m) := below_drewN ((hB1.alloc hB1.size _)) m
  exact ⟨rfl, ((h2.trans (hB3.mono h2.size)).trans (hB4.mono ((h2.trans (hB3.mono h2.size)).size))).trans (hB5.mono (((h2.trans (hB3.mono h2.size)).trans (hB4.mono ((h2.trans (hB3.mono h2.size)).size))).size))⟩
end Go.Proofs.Ytmcjnhbabmajhaa
