/- The walks of lex.from, lex.Word and of the document's start and Word: each hands back what the plain functions say. -/
import Derived.Test.YtmcjnhbabmajhaaRows
import Derived.Test.YtmcjnhbabmajhaaLex
import Derived.WalkKit
import Derived.WalkSpells
import Derived.WalkLawsBesides
import Derived.Lib.Hide
namespace Go.Proofs.Ytmcjnhbabmajhaa
open Go.RowKit
set_option linter.unusedVariables false

theorem ret_int {k : IntKind} {a b : Int} (h : a = b) : Ending.returned (.int k a) = .returned (.int k b) := by rw [h]

set_option maxHeartbeats 400000 in
theorem from_any (s : ByteArray) (i : Int) (w : World) (hs : s.size ≤ maxLen) :
    Calls Try.prog 21 #[.string s, .int .i64 i] w fun e w' => e = .returned (.int .i64 (Lex.st s i : Nat)) ∧ w = w' := by
  unfold maxLen at hs
  by_cases h1 : i < 0
  · have hr : (s.size : Int) = (Lex.st s i : Nat) := by unfold Lex.st; rw [if_pos (Or.inl h1)]
    have H := Lib.hid hr; clear hr
    go_enter Try.func21, Try.ntmps21
    go_wp2
    go_ret
    exact ⟨ret_int H.out, rfl⟩
  · by_cases h2 : (s.size : Int) < i
    · have hr : (s.size : Int) = (Lex.st s i : Nat) := by unfold Lex.st; rw [if_pos (Or.inr h2)]
      have H := Lib.hid hr; clear hr
      go_enter Try.func21, Try.ntmps21
      go_wp2
      go_ret
      exact ⟨ret_int H.out, rfl⟩
    · have hr : i = (Lex.st s i : Nat) := by unfold Lex.st; rw [if_neg (by omega)]; omega
      have H := Lib.hid hr; clear hr
      go_enter Try.func21, Try.ntmps21
      go_wp2
      go_ret
      exact ⟨ret_int H.out, rfl⟩

set_option maxHeartbeats 400000 in
theorem start_any (s : ByteArray) (i : Int) (w : World) (hs : s.size ≤ maxLen) :
    Calls Try.prog 22 #[.string s, .int .i64 i] w fun e w' => e = .returned (.int .i64 (Lex.st s i : Nat)) ∧ w = w' := by
  unfold maxLen at hs
  by_cases h1 : i < 0
  · have hr : (s.size : Int) = (Lex.st s i : Nat) := by unfold Lex.st; rw [if_pos (Or.inl h1)]
    have H := Lib.hid hr; clear hr
    go_enter Try.func22, Try.ntmps22
    go_wp2
    go_ret
    exact ⟨ret_int H.out, rfl⟩
  · by_cases h2 : (s.size : Int) < i
    · have hr : (s.size : Int) = (Lex.st s i : Nat) := by unfold Lex.st; rw [if_pos (Or.inr h2)]
      have H := Lib.hid hr; clear hr
      go_enter Try.func22, Try.ntmps22
      go_wp2
      go_ret
      exact ⟨ret_int H.out, rfl⟩
    · have hr : i = (Lex.st s i : Nat) := by unfold Lex.st; rw [if_neg (by omega)]; omega
      have H := Lib.hid hr; clear hr
      go_enter Try.func22, Try.ntmps22
      go_wp2
      go_ret
      exact ⟨ret_int H.out, rfl⟩

theorem ret_si {a b : ByteArray} {i j : Int} (h1 : a = b) (h2 : i = j) : Ending.returned (.tuple #[.string a, .int .i64 i]) = .returned (.tuple #[.string b, .int .i64 j]) := by rw [h1, h2]

/-- From place k on the blanks end at b. -/
def IsBl (s : ByteArray) (k b : Nat) : Prop := Lex.bl s k = b
/-- From place k on the word ends at b. -/
def IsEn (s : ByteArray) (k b : Nat) : Prop := Lex.en s k = b

set_option maxHeartbeats 400000 in
theorem word_any (s : ByteArray) (i : Int) (w : World) (hs : s.size ≤ 60000) :
    Calls Try.prog 10 #[.string s, .int .i64 i] w fun e w' => e = .returned (.tuple #[.string (Lex.wa s (Lex.st s i)), .int .i64 (Lex.na s (Lex.st s i) : Nat)]) ∧ w = w' := by
  have h0 := Lex.st_le s i
  go_enter Try.func10, Try.ntmps10
  go_wp2_with (go_at_call 21; refine (from_any s i _ (by unfold maxLen; omega)).mono ?_; rintro e w' ⟨rfl, rfl⟩)
  generalize hst : Lex.st s i = a at *
  have hA := Lib.hid hst; clear hst
  go_loop [1] (fun v => ∃ k : Nat, k ≤ s.size ∧ v = .int .i64 k ∧ IsBl s k (Lex.bl s a)) (fun v => s.size - (intOf v).toNat)
  case atStart => exact ⟨a, h0, rfl, rfl⟩
  case round =>
    obtain ⟨k, hk, rfl, hb⟩ := hrel
    by_cases hgo : ∃ h : k < s.size, (s[k].toNat : Int) ≤ 32
    · obtain ⟨hlt, hc⟩ := hgo
      have hb' : IsBl s (k + 1) (Lex.bl s a) := (Lex.bl_step s k hlt hc).trans hb
      go_wp2
      go_round
      case rel => exact ⟨k + 1, by omega, by go_num, hb'⟩
      case measure => simp [intOf]; omega
    · have hend : k = Lex.bl s a := by
        by_cases hlt : k < s.size
        · exact (Lex.bl_stop s k hlt (by by_cases hc : (s[k].toNat : Int) ≤ 32; exact absurd ⟨hlt, hc⟩ hgo; omega)).symm.trans hb
        · exact (Lex.bl_end s k (by omega)).symm.trans hb
      have hE := Lib.hid hend; clear hend
      have hor : (¬ k < s.size) ∨ ∃ h : k < s.size, 32 < (s[k].toNat : Int) := by
        by_cases hlt : k < s.size
        · exact Or.inr ⟨hlt, by by_cases hc : (s[k].toNat : Int) ≤ 32; exact absurd ⟨hlt, hc⟩ hgo; omega⟩
        · exact Or.inl hlt
      clear hgo
      rcases hor with hlt | ⟨hlt, hc⟩
      all_goals
        go_wp2
        go_loop [6] (fun v => ∃ m : Nat, k ≤ m ∧ m ≤ s.size ∧ v = .int .i64 m ∧ IsEn s m (Lex.en s k)) (fun v => s.size - (intOf v).toNat)
        case atStart => exact ⟨k, Nat.le_refl _, hk, rfl, rfl⟩
        case round =>
          obtain ⟨m, hkm, hm, rfl, hn⟩ := hrel
          by_cases hgo : ∃ h : m < s.size, 32 < (s[m].toNat : Int)
          · obtain ⟨hmt, hmc⟩ := hgo
            have hn' : IsEn s (m + 1) (Lex.en s k) := (Lex.en_step s m hmt hmc).trans hn
            go_wp2
            go_round
            case rel => exact ⟨m + 1, by omega, by omega, by go_num, hn'⟩
            case measure => simp [intOf]; omega
          · have hend : m = Lex.en s k := by
              by_cases hmt : m < s.size
              · exact (Lex.en_stop s m hmt (by by_cases hmc : 32 < (s[m].toNat : Int); exact absurd ⟨hmt, hmc⟩ hgo; omega)).symm.trans hn
              · exact (Lex.en_end s m (by omega)).symm.trans hn
            have hmE := Lib.hid hend; clear hend
            have hor : (¬ m < s.size) ∨ ∃ h : m < s.size, (s[m].toNat : Int) ≤ 32 := by
              by_cases hmt : m < s.size
              · exact Or.inr ⟨hmt, by by_cases hmc : 32 < (s[m].toNat : Int); exact absurd ⟨hmt, hmc⟩ hgo; omega⟩
              · exact Or.inl hmt
            clear hgo
            rcases hor with hmt | ⟨hmt, hmc⟩
            all_goals
              go_wp2
            all_goals
              go_ret2
              refine ⟨ret_si ?_ ?_, rfl⟩
              · have e1 := hE.out; have e2 := hmE.out; have e3 := hA.out; unfold Lex.wa; rw [e3, ← e1, ← e2]
              · have e1 := hE.out; have e2 := hmE.out; have e3 := hA.out; unfold Lex.na; rw [e3, ← e1, ← e2]; omega
end Go.Proofs.Ytmcjnhbabmajhaa
