/- The walk of the statement LexWords: at every two texts it tells yes. -/
import Derived.Test.YtmcjnhbabmajhaaL4
import Derived.Laws.AppendOwnNone
namespace Go.Proofs.Ytmcjnhbabmajhaa
open Go.RowKit
set_option linter.unusedVariables false

/-- the first i words, each with a blank ahead -/
def allUp (s : ByteArray) (i : Nat) : ByteArray := ⟨(Lex.lay (((Lex.ws s).take i).map Lex.lst)).toArray⟩
theorem lst_allUp (s : ByteArray) (i : Nat) : Lex.lst (allUp s i) = Lex.lay (((Lex.ws s).take i).map Lex.lst) := by simp [Lex.lst, allUp]
theorem allUp_zero (s : ByteArray) : allUp s 0 = ⟨#[]⟩ := by apply Lex.lst_inj; rw [lst_allUp]; simp [Lex.lst, Lex.lay]
theorem allUp_step (s : ByteArray) (i : Nat) (h : i < (Lex.ws s).length) : allUp s i ++ ⟨#[32]⟩ ++ (Lex.ws s).getD i ⟨#[]⟩ = allUp s (i + 1) := by
  apply Lex.lst_inj
  rw [Lex.lst_append, Lex.lst_append, lst_allUp, lst_allUp, List.take_succ_eq_append_getElem h, List.map_append]
  have e : (Lex.ws s).getD i ⟨#[]⟩ = (Lex.ws s)[i] := by rw [List.getD_eq_getElem?_getD, List.getElem?_eq_getElem h]; rfl
  rw [e]
  have e2 : [(Lex.ws s)[i]].map Lex.lst = [Lex.lst (Lex.ws s)[i]] := rfl
  rw [e2, Lex.lay_snoc]
  have e3 : Lex.lst ⟨#[32]⟩ = [32] := rfl
  rw [e3]; simp
theorem sum_take_le (l : List Nat) (i : Nat) : (l.take i).sum ≤ l.sum := by
  have h : l.sum = (l.take i).sum + (l.drop i).sum := by rw [← List.sum_append, List.take_append_drop]
  omega
theorem size_allUp (s : ByteArray) (i : Nat) : (allUp s i).size ≤ s.size + s.size := by
  rw [← Lex.lst_length, lst_allUp, Lex.lay_length]
  have h1 := Lex.ws_sum s
  have h2 : (Lex.lst s).countP Lex.solid ≤ (Lex.lst s).length := List.countP_le_length
  rw [Lex.lst_length] at h2
  have e : ((((Lex.ws s).take i).map Lex.lst).map List.length) = ((Lex.ws s).map ByteArray.size).take i := by
    rw [List.map_map, ← List.map_take]
    have : (List.length ∘ Lex.lst) = ByteArray.size := by funext x; exact Lex.lst_length x
    rw [this]
  have h3 := sum_take_le ((Lex.ws s).map ByteArray.size) i
  have h4 := Lex.ws_length s
  rw [e, List.length_map, List.length_take]
  omega
theorem allUp_size (s : ByteArray) : (allUp s (Lex.ws s).length).size = (Lex.lst s).countP Lex.solid + (Lex.ws s).length := by
  rw [← Lex.lst_length, lst_allUp, List.take_length]; exact Lex.ws_count s
theorem allUp_words (s : ByteArray) : Lex.ws (allUp s (Lex.ws s).length) = Lex.ws s := Lex.ws_lay s _ (by rw [lst_allUp, List.take_length])

/-- how many of the first k bytes are no blanks -/
def cnt (s : ByteArray) (k : Nat) : Nat := ((Lex.lst s).take k).countP Lex.solid
theorem cnt_le (s : ByteArray) (k : Nat) : cnt s k ≤ s.size := by
  unfold cnt
  have h1 : ((Lex.lst s).take k).countP Lex.solid ≤ ((Lex.lst s).take k).length := List.countP_le_length
  have h2 := List.length_take_le' k (Lex.lst s)
  rw [Lex.lst_length] at h2; omega
theorem cnt_all (s : ByteArray) (k : Nat) (h : s.size ≤ k) : cnt s k = (Lex.lst s).countP Lex.solid := by
  unfold cnt; rw [List.take_of_length_le (by rw [Lex.lst_length]; exact h)]
theorem cnt_step (s : ByteArray) (k : Nat) (h : k < s.size) : cnt s (k + 1) = cnt s k + if Lex.solid s[k] = true then 1 else 0 := by
  unfold cnt
  have h' : k < (Lex.lst s).length := by rw [Lex.lst_length]; exact h
  rw [List.take_succ_eq_append_getElem h', List.countP_append]
  have e : (Lex.lst s)[k] = s[k] := rfl
  rw [e]
  generalize s[k] = c
  by_cases hb : Lex.solid c = true
  · simp [hb]
  · simp [hb]
theorem cnt_yes (s : ByteArray) (k : Nat) (h : k < s.size) (hc : 32 < (s[k].toNat : Int)) : cnt s (k + 1) = cnt s k + 1 := by
  rw [cnt_step s k h, if_pos (by unfold Lex.solid; simp; omega)]
theorem cnt_no (s : ByteArray) (k : Nat) (h : k < s.size) (hc : (s[k].toNat : Int) ≤ 32) : cnt s (k + 1) = cnt s k := by
  rw [cnt_step s k h, if_neg (by unfold Lex.solid; simp; omega)]; rfl

theorem wpList_wanted {P : Program} {ops : Array Oper} {Q : Exit → Act → World → Prop} {a : Act} {w : World} {rest : List Oper} {o : Oper}
    (hw : Region.wanted o (yielded ops a.tmps) = true) (h : o.wp P a w (wpList P ops Q rest) Q) : wpList P ops Q (o :: rest) a w := by
  simp only [wpList]; rw [if_pos hw]; exact Or.inl h

/-- append(v, ys...) of texts, whatever the source: v is a row that the call itself made. -/
theorem wp_append_strs {w : World} {o : Oper} {a : Act} {K : Act → World → Prop} {Q : Exit → Act → World → Prop} (s x : Operand)
    (ho : o.op = .call { callee := .builtin .append, args := #[s, x], argTypes := #[30, 30] }) (base : Nat)
    (v : Value) (n : Nat) (xs : List Value) (hs : a.eval s = v) (hown : w.ownsRow base 9 1 v n xs) (u : Value) (ys : List ByteArray) (hx : a.eval x = u) (hy : Strs w u ys)
    (hb : n + ys.length ≤ 60000) (hbase : base ≤ w.heap.size)
    (h : ∀ v' w', w'.ownsRow base 9 1 v' (n + ys.length) (xs ++ ys.map Value.string) → Below base w w' → K (a.put o.dst v') w') : o.wp Try.prog a w K Q := by
  obtain ⟨i0, hi, hz0, hz1, hz2⟩ := info_parts Try.info9
  rcases hy with ⟨rfl, rfl⟩ | ⟨b, f, c, rfl, hlt, hc⟩
  · have hrun := run_append_owned_none (P := Try.prog) (w := w) base 30 o.type 9 i0 1 Try.underlying30 hi v n xs hown
    have hk := h v w (by simpa using hown) (Below.refl _ _)
    unfold Oper.wp
    simp [execOp, ho, resolve, invoke, builtin, hs, hx, hrun, Result.andThen]
    exact hk
  · refine wp_append_own w s x 30 ho base 9 i0 (.string ⟨#[]⟩) 1 16 Try.underlying30 hi hz0 hz1 hz2 rfl (by decide) v n xs hs hown ⟨b, f, none⟩ ys.length c (ys.map Value.string) hx (by simp) (fun j y hj => ?_) (fun y hy => ?_) (by unfold maxLen; omega) (by omega) hbase (fun v' w' h1 h2 _ => h v' w' h1 ((Below.refl base w).grown h2 hbase (fun k hk => (hown.lt k hk).1)))
    · have hj' : j < ys.length := by
        have := (List.getElem?_eq_some_iff.1 hj).1
        simpa using this
      have := hc j hj'
      have ea : (⟨b, f, none⟩ : Addr).add j = ⟨b, f + j, none⟩ := by
        simp only [Addr.add]; split
        · rename_i h0; subst h0; rfl
        · rfl
      rw [ea, this]
      rw [List.getElem?_map, List.getElem?_eq_getElem hj'] at hj
      rw [List.getD_eq_getElem?_getD, List.getElem?_eq_getElem hj']
      simpa using hj
    · obtain ⟨z, _, rfl⟩ := List.mem_map.1 hy
      rfl

set_option maxHeartbeats 400000 in
theorem lexWords_great1 (s t : ByteArray) (w : World) (hs : 200 < (s.size : Int)) : Calls Try.prog 4 #[.string s, .string t] w (Yes w) := by
  go_enter Try.func4, Try.ntmps4
  go_wp2_with fail
  refine (shown_any _).mono ?_
  rintro e w1 ⟨rfl, hB⟩
  go_wp2_with fail
  go_ret
  exact ⟨rfl, hB⟩
set_option maxHeartbeats 400000 in
theorem lexWords_great2 (s t : ByteArray) (w : World) (hs : (s.size : Int) ≤ 200) (ht : 200 < (t.size : Int)) : Calls Try.prog 4 #[.string s, .string t] w (Yes w) := by
  go_enter Try.func4, Try.ntmps4
  go_wp2_with fail
  refine (shown_any _).mono ?_
  rintro e w1 ⟨rfl, hB⟩
  go_wp2_with fail
  go_ret
  exact ⟨rfl, hB⟩

/-- what is known of a word: it has a byte, and no blank -/
def Solid (x : ByteArray) : Prop := ∀ (m : Nat) (h : m < x.size), 32 < (x[m].toNat : Int)

end Go.Proofs.Ytmcjnhbabmajhaa
