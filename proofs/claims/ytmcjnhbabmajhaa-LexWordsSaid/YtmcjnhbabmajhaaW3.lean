/- The walks of strings.IndexByte, of Upto in both texts, and of Same: each hands back what the plain functions say. -/
import Derived.Test.YtmcjnhbabmajhaaW2
import Derived.Lib.Bytealg
namespace Go.Proofs.Ytmcjnhbabmajhaa
open Go.RowKit
set_option linter.unusedVariables false

theorem indexByte_fc (c : UInt8) : ∀ l : List UInt8, Lib.indexByte l c = if Lex.fc l c < l.length then (Lex.fc l c : Int) else -1
  | [] => by simp [Lib.indexByte, Lex.fc]
  | b :: l => by
    have ih := indexByte_fc c l
    unfold Lib.indexByte
    by_cases hb : (b == c) = true
    · have hb2 : (b != c) = false := by simp [bne, hb]
      rw [if_pos hb]; unfold Lex.fc; rw [List.takeWhile_cons, hb2]; simp
    · have hb2 : (b != c) = true := by simp only [bne]; simpa using hb
      rw [if_neg hb]
      have e : Lex.fc (b :: l) c = Lex.fc l c + 1 := by unfold Lex.fc; rw [List.takeWhile_cons, hb2]; simp
      have h5 := Lex.fc_le l c
      rw [e, ih, List.length_cons]
      by_cases h : Lex.fc l c < l.length
      · rw [if_pos h, if_pos (show Lex.fc l c + 1 < l.length + 1 by omega)]
        have h6 : ((Lex.fc l c : Int) == -1) = false := by rw [beq_eq_false_iff_ne]; omega
        simp only [h6]; simp
      · rw [if_neg h, if_neg (show ¬ Lex.fc l c + 1 < l.length + 1 by omega)]; simp

set_option maxHeartbeats 400000 in
theorem litIndexByte (s : ByteArray) (c : UInt8) (w : World) :
    Calls Try.prog 26 #[.string s, .int .u8 (c.toNat : Int)] w fun e w' => e = .returned (.int .i64 (Lib.indexByte (Lex.lst s) c)) ∧ w = w' := by
  go_enter Try.func26, Try.ntmps26
  go_wp2
  rw [run_callFunc_extern Try.func28 (by kernel_rfl) (by kernel_rfl) (by kernel_rfl) (e := Extern.BytealgIndexByte.indexByte) (by kernel_rfl), Lib.run_indexByteString]
  simp only [Result.andThen]
  rw [Oper.upon_value]
  go_wp2
  go_ret
  exact ⟨ret_int (by simp [Lex.lst]), rfl⟩

set_option maxHeartbeats 400000 in
theorem indexByte_any (s : ByteArray) (c : UInt8) (w : World) :
    Calls Try.prog 23 #[.string s, .int .u8 (c.toNat : Int)] w fun e w' => e = .returned (.int .i64 (Lib.indexByte (Lex.lst s) c)) ∧ w = w' := by
  go_enter Try.func23, Try.ntmps23
  go_wp2_with (go_at_call 26; refine (litIndexByte s c _).mono ?_; rintro e w' ⟨rfl, rfl⟩)
  go_ret
  exact ⟨rfl, rfl⟩

theorem ret_sib {a b : ByteArray} {i j : Int} {p q : Bool} (h1 : a = b) (h2 : i = j) (h3 : p = q) : Ending.returned (.tuple #[.string a, .int .i64 i, .bool p]) = .returned (.tuple #[.string b, .int .i64 j, .bool q]) := by rw [h1, h2, h3]

/-- What strings.IndexByte tells of a text from place a on. -/
theorem index_tail (s : ByteArray) (a : Nat) (c : UInt8) (ha : a ≤ s.size) : Lib.indexByte (Lex.lst (s.extract a s.size)) c = if Lex.ua s a c < s.size then ((Lex.ua s a c : Nat) : Int) - a else -1 := by
  rw [indexByte_fc, Lex.lst_tail, List.length_drop, Lex.lst_length]
  unfold Lex.ua
  by_cases h : Lex.fc ((Lex.lst s).drop a) c < s.size - a
  · rw [if_pos h, if_pos (by omega)]; omega
  · rw [if_neg h, if_neg (by omega)]

set_option maxHeartbeats 400000 in
theorem upto_any (s : ByteArray) (i : Int) (c : UInt8) (w : World) (hs : s.size ≤ 60000) :
    Calls Try.prog 12 #[.string s, .int .i64 i, .int .u8 (c.toNat : Int)] w fun e w' => e = .returned (.tuple #[.string (Lex.uw s (Lex.st s i) c), .int .i64 (Lex.un s (Lex.st s i) c : Nat), .bool (Lex.ub s (Lex.st s i) c)]) ∧ w = w' := by
  have h0 := Lex.st_le s i
  have hx := index_tail s (Lex.st s i) c h0
  by_cases h : Lex.ua s (Lex.st s i) c < s.size
  · rw [if_pos h] at hx
    have hge := Lex.ua_ge s (Lex.st s i) c
    have H := Lib.hid hx; clear hx
    generalize hua : Lex.ua s (Lex.st s i) c = u at *
    have hU := Lib.hid hua; clear hua
    have cI : ∀ w, Calls Try.prog 23 #[.string (s.extract (Lex.st s i) s.size), .int .u8 (c.toNat : Int)] w fun e w' => e = .returned (.int .i64 ((u : Int) - (Lex.st s i : Nat))) ∧ w = w' := fun w => by
      rw [← H.out]; exact indexByte_any _ c w
    clear H
    generalize hst : Lex.st s i = a at *
    have hA := Lib.hid hst; clear hst
    go_enter Try.func12, Try.ntmps12
    go_wp2_with (first | (go_at_call 21; refine (from_any s i _ (by unfold maxLen; omega)).mono ?_; rw [hA.out]; rintro e w' ⟨rfl, rfl⟩) | (go_at_call 23; refine (cI _).mono ?_; rintro e w' ⟨rfl, rfl⟩))
    go_ret3
    refine ⟨ret_sib ?_ ?_ ?_, rfl⟩
    · have e2 := hU.out; unfold Lex.uw; rw [e2]
      have e3 : a + (u - a) = u := by omega
      rw [e3]
    · have e2 := hU.out; unfold Lex.un; rw [e2, if_pos h]; omega
    · have e2 := hU.out; unfold Lex.ub; rw [e2, decide_eq_true h]
  · rw [if_neg h] at hx
    have hle := Lex.ua_le s (Lex.st s i) c h0
    have hua : Lex.ua s (Lex.st s i) c = s.size := by omega
    have H := Lib.hid hx; clear hx
    have hU := Lib.hid hua; clear hua h hle
    have cI : ∀ w, Calls Try.prog 23 #[.string (s.extract (Lex.st s i) s.size), .int .u8 (c.toNat : Int)] w fun e w' => e = .returned (.int .i64 (-1)) ∧ w = w' := fun w => by
      rw [← H.out]; exact indexByte_any _ c w
    clear H
    generalize hst : Lex.st s i = a at *
    have hA := Lib.hid hst; clear hst
    go_enter Try.func12, Try.ntmps12
    go_wp2_with (first | (go_at_call 21; refine (from_any s i _ (by unfold maxLen; omega)).mono ?_; rw [hA.out]; rintro e w' ⟨rfl, rfl⟩) | (go_at_call 23; refine (cI _).mono ?_; rintro e w' ⟨rfl, rfl⟩))
    go_ret3
    refine ⟨ret_sib ?_ ?_ ?_, rfl⟩
    · have e2 := hU.out; unfold Lex.uw; rw [e2]
    · have e2 := hU.out; unfold Lex.un; rw [e2, if_neg (by omega)]
    · have e2 := hU.out; unfold Lex.ub; rw [e2]; simp

/-- From place k on the first sign stands at b. -/
def IsUa (s : ByteArray) (c : UInt8) (k b : Nat) : Prop := Lex.ua s k c = b

set_option maxHeartbeats 400000 in
theorem rupto_any (s : ByteArray) (i : Int) (c : UInt8) (w : World) (hs : s.size ≤ 60000) :
    Calls Try.prog 13 #[.string s, .int .i64 i, .int .u8 (c.toNat : Int)] w fun e w' => e = .returned (.tuple #[.string (Lex.uw s (Lex.st s i) c), .int .i64 (Lex.un s (Lex.st s i) c : Nat), .bool (Lex.ub s (Lex.st s i) c)]) ∧ w = w' := by
  have h0 := Lex.st_le s i
  go_enter Try.func13, Try.ntmps13
  go_wp2_with (go_at_call 22; refine (start_any s i _ (by unfold maxLen; omega)).mono ?_; rintro e w' ⟨rfl, rfl⟩)
  generalize hst : Lex.st s i = a at *
  have hA := Lib.hid hst; clear hst
  go_loop [10] (fun v => ∃ k : Nat, a ≤ k ∧ k ≤ s.size ∧ v = .int .i64 k ∧ IsUa s c k (Lex.ua s a c)) (fun v => s.size - (intOf v).toNat)
  case atStart => exact ⟨a, Nat.le_refl _, h0, rfl, rfl⟩
  case round =>
    obtain ⟨k, hak, hk, rfl, hb⟩ := hrel
    by_cases hlt : k < s.size
    · by_cases hc : s[k] = c
      · have hend : Lex.ua s a c = k := hb.symm.trans (Lex.ua_stop s k c hlt hc)
        have hU := Lib.hid hend; clear hend
        have ht : ((s[k].toNat : Int) == (c.toNat : Int)) = true := by rw [hc]; simp
        clear hc
        go_wp2
        go_ret3
        refine ⟨ret_sib ?_ ?_ ?_, rfl⟩
        · have e1 := hA.out; have e2 := hU.out; unfold Lex.uw; rw [e1, e2]
        · have e1 := hA.out; have e2 := hU.out; unfold Lex.un; rw [e1, e2, if_pos hlt]; omega
        · have e1 := hA.out; have e2 := hU.out; unfold Lex.ub; rw [e1, e2, decide_eq_true hlt]
      · have hb' : IsUa s c (k + 1) (Lex.ua s a c) := (Lex.ua_step s k c hlt hc).trans hb
        have ht : ((s[k].toNat : Int) == (c.toNat : Int)) = false := by
          rw [beq_eq_false_iff_ne]; intro e; exact hc (UInt8.toNat_inj.1 (by omega))
        clear hc
        go_wp2
        go_round
        case rel => exact ⟨k + 1, by omega, by omega, by go_num, hb'⟩
        case measure => simp [intOf]; omega
    · have hend : Lex.ua s a c = s.size := by have e1 := hb.symm.trans (Lex.ua_end s k c (by omega)); omega
      have hU := Lib.hid hend; clear hend
      go_wp2
      go_ret3
      refine ⟨ret_sib ?_ ?_ ?_, rfl⟩
      · have e1 := hA.out; have e2 := hU.out; unfold Lex.uw; rw [e1, e2]
      · have e1 := hA.out; have e2 := hU.out; unfold Lex.un; rw [e1, e2, if_neg (by omega)]
      · have e1 := hA.out; have e2 := hU.out; unfold Lex.ub; rw [e1, e2]; simp
end Go.Proofs.Ytmcjnhbabmajhaa
