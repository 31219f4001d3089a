/- The walk of the statement LexUpto: at every text, place and sign it tells yes. -/
import Derived.Test.YtmcjnhbabmajhaaW8
namespace Go.Proofs.Ytmcjnhbabmajhaa
open Go.RowKit
set_option linter.unusedVariables false

theorem below_then {w a b : World} (h : Below w.heap.size w a) (k : Below a.heap.size a b) : Below w.heap.size w b := h.trans (k.mono h.size)
theorem u8_of {a : Int} (h : (Lit.int .u8 a).wf = true) : ∃ c : UInt8, a = (c.toNat : Int) := by
  have hmin : IntKind.u8.min = 0 := rfl
  have hmax : IntKind.u8.max = 255 := rfl
  simp only [Lit.wf, Bool.and_eq_true, decide_eq_true_eq, hmin, hmax] at h
  refine ⟨UInt8.ofNat a.toNat, ?_⟩
  rw [UInt8.toNat_ofNat']
  omega
theorem getElem_extract' (s : ByteArray) (k u m : Nat) (h : m < (s.extract k u).size) (hu : u ≤ s.size) (hk : k ≤ u) : ∃ h' : k + m < s.size, (s.extract k u)[m] = s[k + m] := by
  have hz : (s.extract k u).size = u - k := by rw [ByteArray.size_extract, Nat.min_eq_left hu]
  refine ⟨by omega, ?_⟩
  exact ByteArray.getElem_extract h

theorem upto_yes (s : ByteArray) (k u : Nat) (c : UInt8) (w : World) (hs : s.size ≤ 60000) (hk : k ≤ s.size) (hu : Lex.ua s k c = u) (hlt : u < s.size) :
    Calls Try.prog 12 #[.string s, .int .i64 (k : Int), .int .u8 (c.toNat : Int)] w fun e w' => e = .returned (.tuple #[.string (s.extract k u), .int .i64 ((u : Int) + 1), .bool true]) ∧ w = w' := by
  have h := upto_any s k c w hs
  rw [st_nat s k hk] at h
  unfold Lex.uw Lex.un Lex.ub at h
  rw [hu, if_pos hlt, decide_eq_true hlt] at h
  exact h
theorem upto_no (s : ByteArray) (k : Nat) (c : UInt8) (w : World) (hs : s.size ≤ 60000) (hk : k ≤ s.size) (hu : ¬ Lex.ua s k c < s.size) :
    Calls Try.prog 12 #[.string s, .int .i64 (k : Int), .int .u8 (c.toNat : Int)] w fun e w' => e = .returned (.tuple #[.string (s.extract k s.size), .int .i64 (s.size : Int), .bool false]) ∧ w = w' := by
  have h := upto_any s k c w hs
  have hle := Lex.ua_le s k c hk
  have he : Lex.ua s k c = s.size := by omega
  rw [st_nat s k hk] at h
  unfold Lex.uw Lex.un Lex.ub at h
  rw [he, if_neg (by omega), decide_eq_false (by omega)] at h
  exact h

/-- no byte of a text is this sign -/
def Free (v : ByteArray) (c : UInt8) : Prop := ∀ (m : Nat) (h : m < v.size), ((v[m].toNat : Int) == (c.toNat : Int)) = false
theorem free_extract (s : ByteArray) (k u : Nat) (c : UInt8) (hk : k ≤ u) (hu : u ≤ s.size) (h : u ≤ Lex.ua s k c) : Free (s.extract k u) c := by
  intro m hm
  have hz : (s.extract k u).size = u - k := by rw [ByteArray.size_extract, Nat.min_eq_left hu]
  obtain ⟨h', e⟩ := getElem_extract' s k u m hm hu hk
  have := Lex.ua_none s k c (k + m) (by omega) (by omega) h'
  rw [e, beq_eq_false_iff_ne]
  intro e2; exact this (UInt8.toNat_inj.1 (by omega))

set_option maxHeartbeats 400000 in
theorem lexUpto_great (s : ByteArray) (a c : Int) (w : World) (hs : 200 < (s.size : Int)) :
    Calls Try.prog 5 #[.string s, .int .u8 a, .int .u8 c] w (Yes w) := by
  go_enter Try.func5, Try.ntmps5
  go_wp2_with fail
  refine (shown_any _).mono ?_
  rintro e w1 ⟨rfl, hB⟩
  go_wp2_with fail
  go_ret
  exact ⟨rfl, hB⟩

set_option maxHeartbeats 800000 in
theorem lexUpto_yes (s : ByteArray) (a : Int) (c : UInt8) (k u : Nat) (w : World) (ha : 0 ≤ a) (ha2 : a ≤ 255) (hs : (s.size : Int) ≤ 200) (hk : a % ((s.size : Int) + 1) = (k : Int)) (hks : k ≤ s.size) (hu : Lex.ua s k c = u) (hlt : u < s.size) :
    Calls Try.prog 5 #[.string s, .int .u8 a, .int .u8 (c.toNat : Int)] w (Yes w) := by
  have c12 : ∀ w, Calls Try.prog 12 #[.string s, .int .i64 (k : Int), .int .u8 (c.toNat : Int)] w fun e w' => e = .returned (.tuple #[.string (s.extract k u), .int .i64 ((u : Int) + 1), .bool true]) ∧ w = w' := fun w => upto_yes s k u c w (by omega) hks hu hlt
  have hku : k ≤ u := by rw [← hu]; exact Lex.ua_ge s k c
  have hfree := free_extract s k u c hku (by omega) (by omega)
  have hat : ((s[u].toNat : Int) == (c.toNat : Int)) = true := by
    have := Lex.ua_at s k c (by rw [hu]; exact hlt)
    simp only [hu] at this
    rw [this]; simp
  have hz : (s.extract k u).size = u - k := by rw [ByteArray.size_extract, Nat.min_eq_left (by omega)]
  obtain ⟨v, hv⟩ : ∃ v, v = s.extract k u := ⟨_, rfl⟩
  rw [← hv] at hfree hz c12
  clear hu
  obtain rfl : u = k + v.size := by omega
  have hvv : ((s.extract k (k + v.size)).toList == v.toList) = true := by rw [← hv]; simp
  have hnx : ((k : Int) + (v.size : Int) + 1 == (k : Int) + (v.size : Int) + 1) = true := by simp
  have C12 := Lib.hid c12
  have HF := Lib.hid hfree
  clear c12 hz hv hfree
  go_enter Try.func5, Try.ntmps5
  go_wp2_with fail
  refine (shown_any _).mono ?_
  rintro e w1 ⟨rfl, hB⟩
  go_wp2_with fail
  refine (C12.out _).mono ?_
  rintro e w' ⟨rfl, rfl⟩
  go_wp2_with fail
  go_loop [12] (fun x => ∃ m : Nat, m ≤ v.size ∧ x = .int .i64 m) (fun x => v.size - (intOf x).toNat)
  case atStart => exact ⟨0, Nat.zero_le _, rfl⟩
  case round =>
    obtain ⟨m, hm, rfl⟩ := hrel
    by_cases hmt : m < v.size
    · have hne := HF.out m hmt
      go_wp2
      go_round
      case rel => exact ⟨m + 1, by omega, by go_num⟩
      case measure => simp [intOf]; omega
    · go_wp2
      go_ret
      exact ⟨rfl, hB⟩

set_option maxHeartbeats 800000 in
theorem lexUpto_no (s : ByteArray) (a : Int) (c : UInt8) (k : Nat) (w : World) (ha : 0 ≤ a) (ha2 : a ≤ 255) (hs : (s.size : Int) ≤ 200) (hk : a % ((s.size : Int) + 1) = (k : Int)) (hks : k ≤ s.size) (hu : ¬ Lex.ua s k c < s.size) :
    Calls Try.prog 5 #[.string s, .int .u8 a, .int .u8 (c.toNat : Int)] w (Yes w) := by
  have c12 : ∀ w, Calls Try.prog 12 #[.string s, .int .i64 (k : Int), .int .u8 (c.toNat : Int)] w fun e w' => e = .returned (.tuple #[.string (s.extract k s.size), .int .i64 (s.size : Int), .bool false]) ∧ w = w' := fun w => upto_no s k c w (by omega) hks hu
  have hfree := free_extract s k s.size c hks (Nat.le_refl _) (by have := Lex.ua_le s k c hks; omega)
  have hz : (s.extract k s.size).size = s.size - k := by rw [ByteArray.size_extract]; omega
  obtain ⟨v, hv⟩ : ∃ v, v = s.extract k s.size := ⟨_, rfl⟩
  have hvv : (v.toList == (s.extract k s.size).toList) = true := by rw [← hv]; simp
  rw [← hv] at hfree hz c12
  have hz1 : v.size ≤ 200 := by omega
  have C12 := Lib.hid c12
  have HF := Lib.hid hfree
  clear c12 hz hv hfree hu
  go_enter Try.func5, Try.ntmps5
  go_wp2_with fail
  refine (shown_any _).mono ?_
  rintro e w1 ⟨rfl, hB⟩
  go_wp2_with fail
  refine (C12.out _).mono ?_
  rintro e w' ⟨rfl, rfl⟩
  go_wp2_with fail
  go_loop [12] (fun x => ∃ m : Nat, m ≤ v.size ∧ x = .int .i64 m) (fun x => v.size - (intOf x).toNat)
  case atStart => exact ⟨0, Nat.zero_le _, rfl⟩
  case round =>
    obtain ⟨m, hm, rfl⟩ := hrel
    by_cases hmt : m < v.size
    · have hne := HF.out m hmt
      go_wp2
      go_round
      case rel => exact ⟨m + 1, by omega, by go_num⟩
      case measure => simp [intOf]; omega
    · go_wp2
      go_ret
      exact ⟨rfl, hB⟩

theorem u8_range {a : Int} (h : (Lit.int .u8 a).wf = true) : 0 ≤ a ∧ a ≤ 255 := by
  have hmin : IntKind.u8.min = 0 := rfl
  have hmax : IntKind.u8.max = 255 := rfl
  simp only [Lit.wf, Bool.and_eq_true, decide_eq_true_eq, hmin, hmax] at h
  exact h

theorem lexUpto_walk (s : ByteArray) (a c : Int) (w0 : s.size ≤ maxLen) (w1 : (Lit.int .u8 a).wf = true) (w2 : (Lit.int .u8 c).wf = true) (w : World) :
    Calls Try.prog 5 #[.string s, .int .u8 a, .int .u8 c] w (Yes w) := by
  by_cases hs : 200 < (s.size : Int)
  · exact lexUpto_great s a c w hs
  · obtain ⟨c, rfl⟩ := u8_of w2
    have hr := u8_range w1
    have h0 : 0 ≤ a % ((s.size : Int) + 1) := Int.emod_nonneg _ (by omega)
    have h1 : a % ((s.size : Int) + 1) < (s.size : Int) + 1 := Int.emod_lt_of_pos _ (by omega)
    obtain ⟨k, hk⟩ : ∃ k : Nat, a % ((s.size : Int) + 1) = (k : Int) := ⟨(a % ((s.size : Int) + 1)).toNat, by omega⟩
    rw [hk] at h0 h1
    by_cases hu : Lex.ua s k c < s.size
    · exact lexUpto_yes s a c k _ w hr.1 hr.2 (by omega) hk (by omega) rfl hu
    · exact lexUpto_no s a c k w hr.1 hr.2 (by omega) hk (by omega) hu
end Go.Proofs.Ytmcjnhbabmajhaa
