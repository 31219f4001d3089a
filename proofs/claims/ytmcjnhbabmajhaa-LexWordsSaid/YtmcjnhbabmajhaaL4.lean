/- The walk of the statement LexSteps: at every text it tells yes. -/
import Derived.Test.YtmcjnhbabmajhaaL1
namespace Go.Proofs.Ytmcjnhbabmajhaa
open Go.RowKit
set_option linter.unusedVariables false

theorem At.cons {s : ByteArray} {g p k : Nat} (h : At s g p ((Lex.ws s).take k)) (hk : k < (Lex.ws s).length) :
    (Lex.wa s p).size ≠ 0 ∧ (Lex.ws s).getD k ⟨#[]⟩ = Lex.wa s p ∧ ∃ g', At s g' (Lex.na s p) ((Lex.ws s).take (k + 1)) := by
  have hv : (Lex.wa s p).size ≠ 0 := by
    intro hv
    have e := h.stop hv
    have := congrArg List.length e
    rw [List.length_take] at this; omega
  obtain ⟨g', hg, h'⟩ := h.more hv
  have e := h'.2.2
  have hl : ((Lex.ws s).take k).length = k := by rw [List.length_take]; omega
  have hx : (Lex.ws s).getD k ⟨#[]⟩ = Lex.wa s p := by
    conv => lhs; rw [e]
    rw [List.getD_eq_getElem?_getD, List.getElem?_append_left (by simp; omega), List.getElem?_append_right (by omega), hl]; simp
  refine ⟨hv, hx, g', ?_⟩
  have ht : (Lex.ws s).take (k + 1) = (Lex.ws s).take k ++ [Lex.wa s p] := by
    rw [List.take_succ_eq_append_getElem hk, ← hx, List.getD_eq_getElem?_getD, List.getElem?_eq_getElem hk]; rfl
  rw [ht]; exact h'
theorem At.over {s : ByteArray} {g p k : Nat} (h : At s g p ((Lex.ws s).take k)) (hk : k = (Lex.ws s).length) : (Lex.wa s p).size = 0 := by
  by_cases hv : (Lex.wa s p).size = 0
  · exact hv
  · obtain ⟨g', hg, h'⟩ := h.more hv
    have e := congrArg List.length h'.2.2
    subst hk
    rw [List.take_length] at e
    simp at e

/-- A slice value whose elements are these texts. -/
def Row (w : World) (a : Option Addr) (n : Nat) (xs : List ByteArray) : Prop := n = xs.length ∧ ∀ i, i < n → ∃ b o, a = some ⟨b, o, none⟩ ∧ b < w.heap.size ∧ w.cell? ⟨b, o + i, none⟩ = some (.string (xs.getD i ⟨#[]⟩))
theorem Strs.row {w : World} {v : Value} {xs : List ByteArray} (h : Strs w v xs) : ∃ a n c, v = .slice a n c ∧ Row w a n xs := by
  rcases h with ⟨rfl, rfl⟩ | ⟨b, o, c, rfl, hb, hc⟩
  · exact ⟨none, 0, 0, rfl, rfl, fun i hi => absurd hi (by omega)⟩
  · exact ⟨_, _, _, rfl, rfl, fun i hi => ⟨b, o, rfl, hb, hc i hi⟩⟩

set_option maxHeartbeats 400000 in
theorem lexSteps_great (s : ByteArray) (w : World) (hs : 200 < (s.size : Int)) : Calls Try.prog 8 #[.string s] w (Yes w) := by
  go_enter Try.func8, Try.ntmps8
  go_wp2_with fail
  refine (shown_any _).mono ?_
  rintro e w1 ⟨rfl, hB⟩
  go_wp2_with fail
  go_ret
  exact ⟨rfl, hB⟩

set_option maxHeartbeats 800000 in
theorem lexSteps_in (s : ByteArray) (w : World) (hs : (s.size : Int) ≤ 200) : Calls Try.prog 8 #[.string s] w (Yes w) := by
  have hwl := Lex.ws_length s
  go_enter Try.func8, Try.ntmps8
  go_wp2_with fail
  refine (shown_any _).mono ?_
  rintro e w1 ⟨rfl, hB⟩
  go_wp2_with fail
  refine (words_any s _ (by omega)).mono ?_
  rintro e w2 ⟨v, rfl, hown, hB2⟩
  obtain ⟨a, n, c, rfl, hrow⟩ := (strs_of_owns hown).row
  have hn : n ≤ 200 := by have := hrow.1; omega
  have HR := Lib.hid hrow
  clear hown hrow hwl
  go_wp2_with fail
  go_loop [5, 6, 7, 8] (fun y x _ _ => ∃ k g p : Nat, k ≤ n ∧ x = .int .i64 k ∧ y = .int .i64 p ∧ At s g p ((Lex.ws s).take k)) (fun _ x _ _ => n - (intOf x).toNat)
  case atStart => exact ⟨0, s.size + 1, 0, Nat.zero_le _, rfl, rfl, by rw [List.take_zero]; exact At.start s⟩
  case round =>
    obtain ⟨k, g, p, hk, rfl, rfl, hat⟩ := hrel
    have hp := hat.1
    have hw := fun w => word_at s p w (by omega) hp
    have hnl := Lex.na_le s p
    by_cases hlt : k < n
    · obtain ⟨b, o, rfl, hbl, hc⟩ := HR.out.2 k hlt
      obtain ⟨hv, hx, g', hat'⟩ := hat.cons (by have := HR.out.1; omega)
      have hgt := Lex.na_gt s p hp hv
      rw [hx] at hc
      have hxx : ((Lex.wa s p).toList == (Lex.wa s p).toList) = true := by simp
      clear hv hx hat
      generalize Lex.wa s p = x at *
      generalize Lex.na s p = q at *
      have HW := Lib.hid hw; clear hw
      go_wp2_with fail
      refine (HW.out _).mono ?_
      rintro e w' ⟨rfl, rfl⟩
      go_wp2_with fail
      go_round
      case rel => exact ⟨k + 1, g', q, by omega, by go_num, rfl, hat'⟩
      case measure => simp [intOf]; omega
    · have hov := hat.over (by have := HR.out.1; omega)
      rw [Lex.na_end s p hp hov, empty_of_size _ hov] at hw
      have HW := Lib.hid hw; clear hw hov hat hnl
      go_wp2_with fail
      refine (HW.out _).mono ?_
      rintro e w' ⟨rfl, rfl⟩
      go_wp2_with fail
      go_ret
      exact ⟨rfl, below_then hB hB2⟩

theorem lexSteps_walk (s : ByteArray) (w0 : s.size ≤ maxLen) (w : World) : Calls Try.prog 8 #[.string s] w (Yes w) := by
  by_cases hs : 200 < (s.size : Int)
  · exact lexSteps_great s w hs
  · exact lexSteps_in s w (by omega)
end Go.Proofs.Ytmcjnhbabmajhaa
