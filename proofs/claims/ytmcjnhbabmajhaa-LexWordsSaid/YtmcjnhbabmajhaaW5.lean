/- The walk of the document's Words: a new row that holds the words, one behind the other. -/
import Derived.Test.YtmcjnhbabmajhaaW4
import Derived.Deep.LoopGhost
namespace Go.Proofs.Ytmcjnhbabmajhaa
open Go.RowKit
set_option linter.unusedVariables false

theorem Try.info9 : (Try.prog.info? 9).map (fun i => (i.zero, i.size, i.bytes)) = some (some (.string ⟨#[]⟩), 1, 16) := by kernel_rfl

theorem st_nat (s : ByteArray) (k : Nat) (h : k ≤ s.size) : Lex.st s (k : Int) = k := by unfold Lex.st; rw [if_neg (by omega)]; omega
theorem word_at (s : ByteArray) (k : Nat) (w : World) (hs : s.size ≤ 60000) (hk : k ≤ s.size) :
    Calls Try.prog 10 #[.string s, .int .i64 (k : Int)] w fun e w' => e = .returned (.tuple #[.string (Lex.wa s k), .int .i64 (Lex.na s k : Nat)]) ∧ w = w' := by
  have := word_any s k w hs
  rw [st_nat s k hk] at this; exact this
theorem rword_at (s : ByteArray) (k : Nat) (w : World) (hs : s.size ≤ 60000) (hk : k ≤ s.size) :
    Calls Try.prog 11 #[.string s, .int .i64 (k : Int)] w fun e w' => e = .returned (.tuple #[.string (Lex.wa s k), .int .i64 (Lex.na s k : Nat)]) ∧ w = w' := by
  have := rword_any s k w hs
  rw [st_nat s k hk] at this; exact this

/-- A reading of a line has come to place k: these words so far, at most g more. -/
def At (s : ByteArray) (g k : Nat) (pre : List ByteArray) : Prop := k ≤ s.size ∧ s.size < g + k ∧ Lex.ws s = pre ++ Lex.wf s g k
theorem At.start (s : ByteArray) : At s (s.size + 1) 0 [] := ⟨by omega, by omega, by unfold Lex.ws; rw [List.nil_append]⟩
theorem At.more {s : ByteArray} {g k : Nat} {pre : List ByteArray} (h : At s g k pre) (hv : (Lex.wa s k).size ≠ 0) : ∃ g', g = g' + 1 ∧ At s g' (Lex.na s k) (pre ++ [Lex.wa s k]) := by
  obtain ⟨hk, hf, he⟩ := h
  have := Lex.na_gt s k hk hv
  have hl := Lex.na_le s k
  cases g with
  | zero => omega
  | succ g => refine ⟨g, rfl, hl, by omega, ?_⟩; rw [he]; simp only [Lex.wf]; rw [if_neg hv]; simp
theorem At.stop {s : ByteArray} {g k : Nat} {pre : List ByteArray} (h : At s g k pre) (hv : (Lex.wa s k).size = 0) : Lex.ws s = pre := by
  rw [h.2.2, Lex.wf_stop s g k hv, List.append_nil]
theorem At.len {s : ByteArray} {g k : Nat} {pre : List ByteArray} (h : At s g k pre) : pre.length ≤ s.size := by
  have := Lex.ws_length s; rw [h.2.2, List.length_append] at this; omega

/-- The row of words that a call has made. -/
def MadeWords (s : ByteArray) (w : World) (e : Ending) (w' : World) : Prop :=
  ∃ v, e = .returned v ∧ w'.ownsRow w.heap.size 9 1 v (Lex.ws s).length ((Lex.ws s).map Value.string) ∧ Below w.heap.size w w'

set_option maxHeartbeats 1000000 in
theorem rwords_any (s : ByteArray) (w : World) (hs : s.size ≤ 60000) : Calls Try.prog 16 #[.string s] w (MadeWords s w) := by
  obtain ⟨i0, hi, hz0, hz1, hz2⟩ := info_parts Try.info9
  go_enter Try.func16, Try.ntmps16
  go_wp2_with (go_at_call 11; refine (rword_at s 0 _ hs (by omega)).mono ?_; rintro e w' ⟨rfl, rfl⟩)
  go_loopg [3, 4, 5, 6, 7] (s.size + 1) (fun g v x y x2 y2 wr => ∃ (k : Nat) (pre : List ByteArray), x = .string (Lex.wa s k) ∧ y = .int .i64 (Lex.na s k : Nat) ∧ At s g k pre ∧
    wr.ownsRow w.heap.size 9 1 v pre.length (pre.map Value.string) ∧ Below w.heap.size w wr)
  case atStart => exact ⟨0, [], rfl, rfl, At.start s, World.ownsRow_nil _ _ _ _, Below.refl _ _⟩
  case round =>
    obtain ⟨k, pre, rfl, rfl, hat, hown, hB⟩ := hrel
    by_cases hv : (Lex.wa s k).size = 0
    · have hE := Lib.hid (hat.stop hv)
      have he := isEmpty_yes _ hv
      clear hv
      go_wp2
      go_ret
      exact ⟨_, rfl, by rw [hE.out]; exact hown, hB⟩
    · obtain ⟨g', hg, hat'⟩ := hat.more hv
      have HG := Lib.hid hg; clear hg
      have hpl := hat.len
      have he := isEmpty_no _ hv
      have hk := hat'.1
      clear hv
      go_wp2_with (first
        | (at_builtin; refine wpList_append_own _ rfl _ _ 30 rfl w.heap.size 9 i0 (.string ⟨#[]⟩) 1 16 Try.underlying30 hi hz0 hz1 hz2 rfl (by decide) _ _ _ rfl (hown.alloc _) ⟨wr.heap.size, 0, none⟩ 1 1 [.string (Lex.wa s k)] rfl rfl (cell_one_new _ _ _) (by simp [Value.oneCell']) (by unfold maxLen; omega) (by omega) (by have := hB.size; simp; omega) ?_; intro v' w1 hown' hgrow _)
        | (go_at_call 11; refine (rword_at s (Lex.na s k) _ hs hk).mono ?_; rintro e w' ⟨rfl, rfl⟩))
      have hB' : Below w.heap.size w w1 := (hB.alloc hB.size _).grown hgrow (by have := hB.size; simp; omega) (fun q hq => (hown.lt q hq).1)
      clear hgrow hown hB hat
      go_roundg g'
      case measure => have := HG.out; omega
      case rel => exact ⟨Lex.na s k, pre ++ [Lex.wa s k], rfl, rfl, hat', by simpa using hown', hB'⟩

/-- A row that a call has made reads as a slice of these texts. -/
theorem strs_of_owns {w : World} {base : Nat} {v : Value} {xs : List ByteArray} (h : w.ownsRow base 9 1 v xs.length (xs.map Value.string)) : Strs w v xs := by
  rcases h.2 with ⟨rfl, h0⟩ | ⟨g, cap, cur, rfl, hb, hh, hn, hm, hz, hc⟩
  · exact Or.inl ⟨rfl, List.length_eq_zero_iff.1 h0⟩
  · refine Or.inr ⟨g, 0, cap, rfl, (Array.getElem?_eq_some_iff.1 hh).1, fun i hi => ?_⟩
    have := h.cellAt i (by omega)
    rw [Nat.zero_add, this, List.getElem?_map, List.getElem?_eq_getElem hi, List.getD_eq_getElem?_getD, List.getElem?_eq_getElem hi]
    rfl
theorem Strs.below {w w' : World} {v : Value} {xs : List ByteArray} (h : Strs w v xs) (hB : Below w.heap.size w w') : Strs w' v xs := by
  rcases h with ⟨rfl, rfl⟩ | ⟨b, o, c, rfl, hb, hc⟩
  · exact Or.inl ⟨rfl, rfl⟩
  · exact Or.inr ⟨b, o, c, rfl, Nat.lt_of_lt_of_le hb hB.size, fun i hi => (hB.cell (p := ⟨b, o + i, none⟩) hb).trans (hc i hi)⟩
end Go.Proofs.Ytmcjnhbabmajhaa
