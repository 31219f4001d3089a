/- The walks of the document's Word, of Upto in both texts, and of Same: each hands back what the plain functions say. -/
import Derived.Test.YtmcjnhbabmajhaaW1
namespace Go.Proofs.Ytmcjnhbabmajhaa
open Go.RowKit
set_option linter.unusedVariables false

/-- What the document's Word has gathered when it stands at place k: nothing yet, or the bytes from the word's first place on. -/
def RW (s : ByteArray) (b k : Nat) (v : ByteArray) : Prop := (v.size = 0 ∧ Lex.bl s k = b) ∨ (v = s.extract b k ∧ b < k ∧ Lex.en s k = Lex.en s b)

theorem size_extract_lt (s : ByteArray) (b k : Nat) (h : b < k) (hk : k ≤ s.size) : (s.extract b k).size = k - b := by rw [ByteArray.size_extract, Nat.min_eq_left hk]
theorem empty_of_size (v : ByteArray) (h : v.size = 0) : v = ⟨#[]⟩ := by
  apply Lex.lst_inj
  have : (Lex.lst v).length = 0 := by rw [Lex.lst_length]; exact h
  rw [List.length_eq_zero_iff.1 this]; rfl
theorem isEmpty_yes (v : ByteArray) (h : v.size = 0) : v.toList.isEmpty = true := by
  rw [ByteArray.toList_eq]; exact List.isEmpty_iff.2 (List.length_eq_zero_iff.1 (by simpa using h))
theorem isEmpty_no (v : ByteArray) (h : v.size ≠ 0) : v.toList.isEmpty = false := by
  cases hq : v.toList.isEmpty
  · rfl
  · exfalso; apply h
    rw [ByteArray.toList_eq] at hq
    have := congrArg List.length (List.isEmpty_iff.1 hq)
    simpa using this
theorem RW.size {s : ByteArray} {b k : Nat} {v : ByteArray} (h : RW s b k v) (hk : k ≤ s.size) : v.size ≤ k := by
  rcases h with ⟨h, _⟩ | ⟨rfl, h, _⟩
  · omega
  · rw [size_extract_lt s b k h hk]; omega
theorem RW.solid {s : ByteArray} {b k : Nat} {v : ByteArray} (h : RW s b k v) (hk : k < s.size) (hc : 32 < (s[k].toNat : Int)) : RW s b (k + 1) (v ++ s.extract k (k + 1)) := by
  rcases h with ⟨h, hb⟩ | ⟨rfl, h, he⟩
  · have e := Lex.bl_stop s k hk hc
    have e2 : b = k := hb.symm.trans e
    subst e2
    refine Or.inr ⟨?_, by omega, Lex.en_step s b hk hc⟩
    rw [empty_of_size v h]; apply Lex.lst_inj; rw [Lex.lst_append]; rfl
  · refine Or.inr ⟨?_, by omega, (Lex.en_step s k hk hc).trans he⟩
    apply Lex.lst_inj
    rw [Lex.lst_append, Lex.lst_extract, Lex.lst_extract, Lex.lst_extract]
    have e1 : k + 1 - b = (k - b) + 1 := by omega
    have e2 : k + 1 - k = 1 := by omega
    rw [e1, e2, List.take_add, List.drop_drop]
    have e3 : b + (k - b) = k := by omega
    rw [e3]
theorem RW.blank {s : ByteArray} {b k : Nat} {v : ByteArray} (h : RW s b k v) (hv : v.size = 0) (hk : k < s.size) (hc : (s[k].toNat : Int) ≤ 32) : RW s b (k + 1) v := by
  rcases h with ⟨h, hb⟩ | ⟨rfl, h, he⟩
  · exact Or.inl ⟨h, (Lex.bl_step s k hk hc).trans hb⟩
  · rw [size_extract_lt s b k h (by omega)] at hv; omega
theorem RW.stop {s : ByteArray} {a k : Nat} {v : ByteArray} (h : RW s (Lex.bl s a) k v) (hv : v.size ≠ 0) (hk : k < s.size) (hc : (s[k].toNat : Int) ≤ 32) : v = Lex.wa s a ∧ k + 1 = Lex.na s a := by
  rcases h with ⟨h, hb⟩ | ⟨rfl, h, he⟩
  · exact absurd h hv
  · have e := (Lex.en_stop s k hk hc).symm.trans he
    unfold Lex.wa Lex.na; rw [← e]; exact ⟨rfl, by omega⟩
theorem RW.last {s : ByteArray} {a k : Nat} {v : ByteArray} (h : RW s (Lex.bl s a) k v) (hk : k = s.size) : v = Lex.wa s a ∧ s.size = Lex.na s a := by
  subst hk
  rcases h with ⟨h, hb⟩ | ⟨rfl, h, he⟩
  · have e := (Lex.bl_end s _ (Nat.le_refl _)).symm.trans hb
    unfold Lex.wa Lex.na; rw [← e, Lex.en_end s _ (Nat.le_refl _)]
    refine ⟨?_, by omega⟩
    rw [empty_of_size v h]; apply Lex.lst_inj; rw [Lex.lst_extract]; simp [Lex.lst]
  · have e := (Lex.en_end s _ (Nat.le_refl _)).symm.trans he
    unfold Lex.wa Lex.na; rw [← e]; exact ⟨rfl, by omega⟩

set_option maxHeartbeats 400000 in
theorem rword_any (s : ByteArray) (i : Int) (w : World) (hs : s.size ≤ 60000) :
    Calls Try.prog 11 #[.string s, .int .i64 i] w fun e w' => e = .returned (.tuple #[.string (Lex.wa s (Lex.st s i)), .int .i64 (Lex.na s (Lex.st s i) : Nat)]) ∧ w = w' := by
  have h0 := Lex.st_le s i
  go_enter Try.func11, Try.ntmps11
  go_wp2_with (go_at_call 22; refine (start_any s i _ (by unfold maxLen; omega)).mono ?_; rintro e w' ⟨rfl, rfl⟩)
  generalize hst : Lex.st s i = a at *
  have hA := Lib.hid hst; clear hst
  go_loop [6, 7, 8] (fun x v c => ∃ (k : Nat) (wv : ByteArray), k ≤ s.size ∧ v = .int .i64 k ∧ x = .string wv ∧ RW s (Lex.bl s a) k wv) (fun _ v _ => s.size - (intOf v).toNat)
  case atStart => exact ⟨a, ⟨#[]⟩, h0, rfl, rfl, Or.inl ⟨rfl, rfl⟩⟩
  case round =>
    obtain ⟨k, wv, hk, rfl, rfl, hR⟩ := hrel
    have hz := hR.size hk
    by_cases hlt : k < s.size
    · by_cases hc : (s[k].toNat : Int) ≤ 32
      · by_cases hv : wv.size = 0
        · have hR' := hR.blank hv hlt hc
          have he : wv.toList.isEmpty = true := isEmpty_yes wv hv
          go_wp2
          go_round
          case rel => exact ⟨k + 1, wv, by omega, by go_num, rfl, hR'⟩
          case measure => simp [intOf]; omega
        · have hR' := hR.stop hv hlt hc
          have H := Lib.hid hR'; clear hR'
          have he : wv.toList.isEmpty = false := isEmpty_no wv hv
          clear hv
          go_wp2
          go_ret2
          refine ⟨ret_si ?_ ?_, rfl⟩
          · rw [hA.out]; exact H.out.1
          · rw [hA.out, ← H.out.2]; omega
      · have hc' : 32 < (s[k].toNat : Int) := by omega
        have hR' := hR.solid hlt hc'
        go_wp2
        go_round
        case rel => exact ⟨k + 1, _, by omega, by go_num, rfl, hR'⟩
        case measure => simp [intOf]; omega
    · have hR' := hR.last (by omega)
      have H := Lib.hid hR'; clear hR'
      go_wp2
      go_ret2
      refine ⟨ret_si ?_ ?_, rfl⟩
      · rw [hA.out]; exact H.out.1
      · rw [hA.out, ← H.out.2]
end Go.Proofs.Ytmcjnhbabmajhaa
