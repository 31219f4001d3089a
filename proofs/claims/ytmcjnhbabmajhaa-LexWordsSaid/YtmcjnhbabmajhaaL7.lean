/- The walk of the statement LexWords, its main way: at every two texts it tells yes. -/
import Derived.Test.YtmcjnhbabmajhaaL6
namespace Go.Proofs.Ytmcjnhbabmajhaa
open Go.RowKit
set_option linter.unusedVariables false

theorem eqs_self (l : List ByteArray) : eqs l l = true := by unfold eqs; simp
theorem size_with (s t : ByteArray) (hs : s.size ≤ 200) (ht : t.size ≤ 200) : (s ++ ⟨#[32]⟩ ++ t).size ≤ 60000 := by
  rw [ByteArray.size_append, ByteArray.size_append]
  have : (⟨#[32]⟩ : ByteArray).size = 1 := rfl
  omega
theorem owns_below {w w' : World} {base : Nat} {e : TypeId} {size : Nat} {v : Value} {k : Nat} {xs : List Value} (h : w.ownsRow base e size v k xs) (hB : Below w.heap.size w w') : w'.ownsRow base e size v k xs := by
  refine ⟨h.1, ?_⟩
  rcases h.2 with h | ⟨g, cap, cur, h1, h2, h3, h4⟩
  · exact Or.inl h
  · exact Or.inr ⟨g, cap, cur, h1, h2, (hB.block g (Array.getElem?_eq_some_iff.1 h3).1).trans h3, h4⟩

set_option maxHeartbeats 1000000 in
theorem lexWords_in (s t : ByteArray) (w : World) (hs : (s.size : Int) ≤ 200) (ht : (t.size : Int) ≤ 200) : Calls Try.prog 4 #[.string s, .string t] w (Yes w) := by
  go_enter Try.func4, Try.ntmps4
  go_wp2_with fail
  refine (shown_any _).mono ?_
  rintro e w1 ⟨rfl, hB⟩
  go_wp2_with fail
  refine (words_any s _ (by omega)).mono ?_
  rintro e w2 ⟨v, rfl, hown, hB2⟩
  have hv := strs_of_owns hown
  obtain ⟨a, n, c, hve, hrow⟩ := hv.row
  rw [hve] at hv ⊢
  clear hown hve
  have hn : n ≤ 200 := by have := hrow.1; have := Lex.ws_length s; omega
  have HR := Lib.hid hrow
  have HV := Lib.hid hv
  have h2 := below_then hB hB2
  clear hrow hv hB hB2
  go_wp2_with fail
  go_loopg [7, 8, 9] n (fun g x y _ wr => ∃ i : Nat, i ≤ n ∧ Hid (g + i = n) ∧ y = .int .i64 i ∧ x = .string (allUp s i) ∧ wr = w2)
  case atStart => exact ⟨0, Nat.zero_le _, Lib.hid (Nat.add_zero _), rfl, by rw [allUp_zero], rfl⟩
  case round =>
    obtain ⟨i, hi, hgi, rfl, rfl, rfl⟩ := hrel
    by_cases hlt : i < n
    · obtain ⟨b, o, rfl, hbl, hc⟩ := HR.out.2 i hlt
      have hil : i < (Lex.ws s).length := by have := HR.out.1; omega
      have hstep := allUp_step s i hil
      have hsz := size_allUp s i
      have hmem : (Lex.ws s).getD i ⟨#[]⟩ ∈ Lex.ws s := by rw [List.getD_eq_getElem?_getD, List.getElem?_eq_getElem hil]; exact List.getElem_mem hil
      have hgood := Lex.ws_good s _ hmem
      have hxz : ((Lex.ws s).getD i ⟨#[]⟩).size ≤ 200 := by
        have h9 : ∀ l : List ByteArray, ∀ x ∈ l, x.size ≤ (l.map ByteArray.size).sum := by
          intro l
          induction l with
          | nil => intro x hx; simp at hx
          | cons y l ih => intro x hx; rcases List.mem_cons.1 hx with rfl | hx; · simp
                           · have := ih x hx; simp; omega
        have h8 := h9 _ _ hmem
        rw [Lex.ws_sum] at h8
        have h7 : (Lex.lst s).countP Lex.solid ≤ (Lex.lst s).length := List.countP_le_length
        rw [Lex.lst_length] at h7; omega
      have hso : Solid ((Lex.ws s).getD i ⟨#[]⟩) := fun m h => by have := hgood.2 m h; omega
      have he := isEmpty_no _ hgood.1
      have hA : (allUp s i).size ≤ 400 := by omega
      have HS := Lib.hid hstep
      clear hgood hmem hil hstep hsz
      generalize (Lex.ws s).getD i ⟨#[]⟩ = x at *
      generalize allUp s i = A at *
      have HSO := Lib.hid hso
      clear hso
      go_wp2_with fail
      obtain ⟨wo, rfl⟩ : ∃ wo : World, wo = wr := ⟨_, rfl⟩
      obtain ⟨go, rfl⟩ : ∃ go : Nat, go = gk := ⟨_, rfl⟩
      go_loopg [9] x.size (fun g z wr => ∃ m : Nat, m ≤ x.size ∧ Hid (g + m = x.size) ∧ z = .int .i64 m ∧ wr = wo)
      case atStart => exact ⟨0, Nat.zero_le _, Lib.hid (Nat.add_zero _), rfl, rfl⟩
      case round =>
        obtain ⟨m, hm, hgm, rfl, rfl⟩ := hrel
        by_cases hmt : m < x.size
        · have hne := HSO.out m hmt
          go_wp2_with fail
          go_roundg (gk - 1)
          case measure => have := hgm.out; omega
          case rel => exact ⟨m + 1, by omega, Lib.hid (by have := hgm.out; omega), by go_num, rfl⟩
        · go_wp2_with fail
          go_roundg (go - 1)
          case measure => have := hgi.out; omega
          case rel => exact ⟨i + 1, by omega, Lib.hid (by have := hgi.out; omega), by go_num, by rw [HS.out], rfl⟩
    · have hie : i = (Lex.ws s).length := by have := HR.out.1; omega
      have hnl := HR.out.1
      have hA1 := allUp_size s
      have hA2 := allUp_words s
      rw [← hie] at hA1 hA2
      have hsz := size_allUp s i
      have hin : i = n := by omega
      have hA : (allUp s i).size ≤ 400 := by omega
      have hlen : (allUp s i).size = cnt s s.size + n := by rw [hA1, cnt_all s s.size (Nat.le_refl _)]; omega
      have HL := Lib.hid hlen
      have HA2 := Lib.hid hA2
      clear hie hA1 hA2 hsz hin hlen hnl
      generalize allUp s i = A at *
      go_wp2_with fail
      go_loop [10, 11] (fun x y => ∃ k : Nat, k ≤ s.size ∧ y = .int .i64 k ∧ x = .int .i64 (cnt s k : Nat)) (fun _ y => s.size - (intOf y).toNat)
      case atStart => exact ⟨0, Nat.zero_le _, rfl, rfl⟩
      case round =>
        obtain ⟨k, hk, rfl, rfl⟩ := hrel
        have hcl := cnt_le s k
        by_cases hlt : k < s.size
        · by_cases hc : (s[k].toNat : Int) ≤ 32
          · have hs1 := cnt_no s k hlt hc
            have HS := Lib.hid hs1; clear hs1
            go_wp2_with fail
            go_round
            case rel => exact ⟨k + 1, by omega, by go_num, by rw [HS.out]⟩
            case measure => simp [intOf]; omega
          · have hs1 := cnt_yes s k hlt (by omega)
            have HS := Lib.hid hs1; clear hs1
            go_wp2_with fail
            go_round
            case rel => exact ⟨k + 1, by omega, by go_num, by rw [HS.out]; go_num⟩
            case measure => simp [intOf]; omega
        · have hke : k = s.size := by omega
          have hteq : ((A.size : Int) == ((cnt s k : Nat) : Int) + (n : Int)) = true := by
            have := HL.out; rw [hke, beq_iff_eq]; omega
          clear hke
          generalize cnt s k = q at *
          go_wp2_with fail
          refine (words_any A _ (by omega)).mono ?_
          unfold MadeWords
          rw [HA2.out]
          rintro e w3 ⟨v3, rfl, hown3, hB3⟩
          have hv3 := strs_of_owns hown3
          clear hown3
          go_wp2_with fail
          refine (same_any _ _ _ _ _ hv3 (HV.out.below hB3) (by have := Lex.ws_length s; omega) (by have := Lex.ws_length s; omega)).mono ?_
          rw [eqs_self]
          rintro e w4 ⟨rfl, m, rfl⟩
          have hB4 : Below wr.heap.size wr (w3.drewN m) := below_drewN hB3 m
          have h4 : Below w.heap.size w (w3.drewN m) := below_then h2 hB4
          have hvl : Strs (w3.drewN m) (.slice a n c) (Lex.ws s) := HV.out.below hB4
          clear hv3 hB3 hB4 h2 HV HR
          generalize w3.drewN m = w4 at *
          go_wp2_with fail
          refine (words_any _ _ (size_with s t (by omega) (by omega))).mono ?_
          unfold MadeWords
          rw [Lex.ws_app s ⟨#[32]⟩ t rfl]
          rintro e w5 ⟨v5, rfl, hown5, hB5⟩
          have hv5 := strs_of_owns hown5
          have hmade := World.ownsRow_made (e := 9) (size := 1) (base := w5.heap.size) w5 #[] 0 (Nat.le_refl _) (Nat.zero_le _) rfl
          have hvl5 : Strs (w5.alloc (.cells #[] 9)) (.slice a n c) (Lex.ws s) := (hvl.below hB5).below ((Below.refl _ w5).alloc (Nat.le_refl _) _)
          have h5 : Below w.heap.size w w5 := below_then h4 hB5
          clear hown5 hvl hB5 h4
          go_wp2_with (at_builtin; refine wpList_wanted ?_ (wp_append_strs (.tmp 92) (.tmp 93) rfl w5.heap.size _ 0 [] rfl hmade _ (Lex.ws s) rfl hvl5 (by have := Lex.ws_length s; omega) (by simp) ?_))
          intro v6 w6 hown6 hB6
          have hB56 : Below w5.heap.size w5 w6 := ((Below.refl _ w5).alloc (Nat.le_refl _) _).trans hB6
          clear hmade hvl5 hB6
          go_wp2_with fail
          refine (words_any t _ (by omega)).mono ?_
          rintro e w7 ⟨v7, rfl, hown7, hB7⟩
          have hv7 := strs_of_owns hown7
          have hown67 := owns_below hown6 hB7
          have hB57 : Below w5.heap.size w5 w7 := below_then hB56 hB7
          clear hown6 hown7 hB7 hB56
          go_wp2_with (at_builtin; refine wpList_wanted ?_ (wp_append_strs (.tmp 94) (.tmp 96) rfl w5.heap.size _ _ _ rfl hown67 _ (Lex.ws t) rfl hv7 (by have := Lex.ws_length s; have := Lex.ws_length t; omega) hB57.size ?_))
          intro v8 w8 hown8 hB8
          have hB58 : Below w5.heap.size w5 w8 := hB57.trans hB8
          have hv8 : Strs w8 v8 (Lex.ws s ++ Lex.ws t) := strs_of_owns (by rw [List.length_append, List.map_append]; exact hown8)
          have hv58 := hv5.below hB58
          have h8 : Below w.heap.size w w8 := below_then h5 hB58
          clear hown67 hown8 hB8 hB57 hB58 hv7 hv5 h5
          go_wp2_with fail
          refine (same_any _ _ _ _ _ hv58 hv8 (by have := Lex.ws_length s; have := Lex.ws_length t; rw [List.length_append]; omega) (by have := Lex.ws_length s; have := Lex.ws_length t; rw [List.length_append]; omega)).mono ?_
          rw [eqs_self]
          rintro e w9 ⟨rfl, m9, rfl⟩
          go_wp2_with fail
          go_ret
          exact ⟨rfl, below_drewN h8 m9⟩

theorem lexWords_walk (s t : ByteArray) (w0 : s.size ≤ maxLen) (w1 : t.size ≤ maxLen) (w : World) :
    Calls Try.prog 4 #[.string s, .string t] w (Yes w) := by
  by_cases hs : 200 < (s.size : Int)
  · exact lexWords_great1 s t w hs
  · by_cases ht : 200 < (t.size : Int)
    · exact lexWords_great2 s t w (by omega) ht
    · exact lexWords_in s t w (by omega) (by omega)
end Go.Proofs.Ytmcjnhbabmajhaa
