/- The walk of the statement LexUpper: at every two texts it tells yes. -/
import Derived.Test.YtmcjnhbabmajhaaL1
namespace Go.Proofs.Ytmcjnhbabmajhaa
open Go.RowKit
set_option linter.unusedVariables false

/-- no byte of a text is a small letter -/
def Great (v : ByteArray) : Prop := ∀ (m : Nat) (h : m < v.size), (v[m].toNat : Int) < 97 ∨ (97 ≤ (v[m].toNat : Int) ∧ 122 < (v[m].toNat : Int))
theorem great_upper (s : ByteArray) : Great (Lex.upper s) := by
  intro m h
  have := Lex.upper_small s m h
  omega

set_option maxHeartbeats 400000 in
theorem lexUpper_great1 (s t : ByteArray) (w : World) (hs : 200 < (s.size : Int)) : Calls Try.prog 6 #[.string s, .string t] w (Yes w) := by
  go_enter Try.func6, Try.ntmps6
  go_wp2_with fail
  refine (shown_any _).mono ?_
  rintro e w1 ⟨rfl, hB⟩
  go_wp2_with fail
  go_ret
  exact ⟨rfl, hB⟩
set_option maxHeartbeats 400000 in
theorem lexUpper_great2 (s t : ByteArray) (w : World) (hs : (s.size : Int) ≤ 200) (ht : 200 < (t.size : Int)) : Calls Try.prog 6 #[.string s, .string t] w (Yes w) := by
  go_enter Try.func6, Try.ntmps6
  go_wp2_with fail
  refine (shown_any _).mono ?_
  rintro e w1 ⟨rfl, hB⟩
  go_wp2_with fail
  go_ret
  exact ⟨rfl, hB⟩

set_option maxHeartbeats 1600000 in
theorem lexUpper_in (s t : ByteArray) (w : World) (hs : (s.size : Int) ≤ 200) (ht : (t.size : Int) ≤ 200) : Calls Try.prog 6 #[.string s, .string t] w (Yes w) := by
  have hz1 := Lex.size_upper s
  have hz2 := Lex.size_upper t
  have hg := great_upper s
  have c1 : ∀ w, Calls Try.prog 17 #[.string s] w fun e w' => e = .returned (.string (Lex.upper s)) ∧ Below w.heap.size w w' := fun w => upper_any s w (by omega)
  have c2 : ∀ w, Calls Try.prog 17 #[.string (Lex.upper s)] w fun e w' => e = .returned (.string (Lex.upper s)) ∧ Below w.heap.size w w' := fun w => by
    have h := upper_any (Lex.upper s) w (by omega)
    unfold MadeUpper at h
    rw [Lex.upper_upper] at h; exact h
  have c3 : ∀ w, Calls Try.prog 17 #[.string t] w fun e w' => e = .returned (.string (Lex.upper t)) ∧ Below w.heap.size w w' := fun w => upper_any t w (by omega)
  have c4 : ∀ w, Calls Try.prog 17 #[.string (s ++ t)] w fun e w' => e = .returned (.string (Lex.upper s ++ Lex.upper t)) ∧ Below w.heap.size w w' := fun w => by
    have h := upper_any (s ++ t) w (by rw [ByteArray.size_append]; omega)
    unfold MadeUpper at h
    rw [Lex.upper_app] at h; exact h
  have c5 : ∀ w, Calls Try.prog 19 #[.string s, .string (Lex.upper s)] w fun e w' => e = .returned (.bool true) ∧ Below w.heap.size w w' := fun w => by
    have h := alike_any s (Lex.upper s) w (by omega) (by omega)
    unfold ToldAlike alike at h
    rw [Lex.upper_upper] at h
    simpa using h
  have c6 : ∀ w, Calls Try.prog 19 #[.string s, .string t] w fun e w' => e = .returned (.bool ((Lex.upper s).toList == (Lex.upper t).toList)) ∧ Below w.heap.size w w' := fun w => alike_any s t w (by omega) (by omega)
  have hxz : ((Lex.upper s).size : Int) = (s.size : Int) := by omega
  have hl : ((Lex.upper s).toList == (Lex.upper t).toList) = true → s.size = t.size := by
    intro h
    have e : Lex.upper s = Lex.upper t := by
      apply Lex.lst_inj; unfold Lex.lst; rw [← ByteArray.toList_eq, ← ByteArray.toList_eq]; exact eq_of_beq h
    rw [← hz1, ← hz2, e]
  obtain ⟨b, hb⟩ : ∃ b, ((Lex.upper s).toList == (Lex.upper t).toList) = b := ⟨_, rfl⟩
  rw [hb] at hl
  simp only [hb] at c6
  have hlen : (b = true ∧ ((s.size : Int) == (t.size : Int)) = true) ∨ b = false := by
    cases b with
    | false => exact Or.inr rfl
    | true => refine Or.inl ⟨rfl, ?_⟩; have := hl rfl; rw [this]; simp
  have hxx : (((Lex.upper s).size : Int) == (s.size : Int)) = true := by rw [hxz]; simp
  have hle : (Lex.upper s).size ≤ 200 := by omega
  have hle2 : (Lex.upper t).size ≤ 200 := by omega
  clear hl hz1 hz2 hxz
  generalize Lex.upper s = X at *
  generalize Lex.upper t = Y at *
  have C1 := Lib.hid c1
  have C2 := Lib.hid c2
  have C3 := Lib.hid c3
  have C4 := Lib.hid c4
  have C5 := Lib.hid c5
  have C6 := Lib.hid c6
  have HG := Lib.hid hg
  clear c1 c2 c3 c4 c5 c6 hg
  rcases hlen with ⟨rfl, hlen⟩ | rfl
  all_goals
    go_enter Try.func6, Try.ntmps6
    go_wp2_with fail
    refine (shown_any _).mono ?_
    rintro e w1 ⟨rfl, hB⟩
    go_wp2_with fail
    refine (C1.out _).mono ?_
    rintro e w2 ⟨rfl, hB2⟩
    go_wp2_with fail
    go_loop [7] (fun x => ∃ m : Nat, m ≤ X.size ∧ x = .int .i64 m) (fun x => X.size - (intOf x).toNat)
    case atStart => exact ⟨0, Nat.zero_le _, rfl⟩
    case round =>
      obtain ⟨m, hm, rfl⟩ := hrel
      by_cases hmt : m < X.size
      · rcases HG.out m hmt with h1 | ⟨h1, h2⟩
        all_goals
          go_wp2_with fail
          go_round
          case rel => exact ⟨m + 1, by omega, by go_num⟩
          case measure => simp [intOf]; omega
      · go_wp2_with fail
        refine (C2.out _).mono ?_
        rintro e w3 ⟨rfl, hB3⟩
        go_wp2_with fail
        refine (C5.out _).mono ?_
        rintro e w4 ⟨rfl, hB4⟩
        go_wp2_with fail
        refine (C6.out _).mono ?_
        rintro e w5 ⟨rfl, hB5⟩
        go_wp2_with fail
        refine (C3.out _).mono ?_
        rintro e w6 ⟨rfl, hB6⟩
        go_wp2_with fail
        refine (C6.out _).mono ?_
        rintro e w7 ⟨rfl, hB7⟩
        go_wp2_with fail
        refine (C4.out _).mono ?_
        rintro e w8 ⟨rfl, hB8⟩
        go_wp2_with fail
        refine (C3.out _).mono ?_
        rintro e w9 ⟨rfl, hB9⟩
        go_wp2_with fail
        go_ret
        exact ⟨rfl, below_then (below_then (below_then (below_then (below_then (below_then (below_then (below_then hB hB2) hB3) hB4) hB5) hB6) hB7) hB8) hB9⟩

theorem lexUpper_walk (s t : ByteArray) (w0 : s.size ≤ maxLen) (w1 : t.size ≤ maxLen) (w : World) :
    Calls Try.prog 6 #[.string s, .string t] w (Yes w) := by
  by_cases hs : 200 < (s.size : Int)
  · exact lexUpper_great1 s t w hs
  · by_cases ht : 200 < (t.size : Int)
    · exact lexUpper_great2 s t w (by omega) ht
    · exact lexUpper_in s t w (by omega) (by omega)
end Go.Proofs.Ytmcjnhbabmajhaa
