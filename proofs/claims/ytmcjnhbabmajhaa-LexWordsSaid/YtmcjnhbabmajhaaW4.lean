/- The walk of the document's Same, over two rows of texts that lie in memory: are they the same? -/
import Derived.Test.YtmcjnhbabmajhaaW3
import Derived.Deep.QuietTactic
import Derived.BigQuiet
namespace Go.Proofs.Ytmcjnhbabmajhaa
open Go.RowKit
set_option linter.unusedVariables false

/-- A value that is a slice whose elements are these texts. -/
def Strs (w : World) (v : Value) (xs : List ByteArray) : Prop :=
  (v = .slice none 0 0 ∧ xs = []) ∨ ∃ (b o c : Nat), v = .slice (some ⟨b, o, none⟩) xs.length c ∧ b < w.heap.size ∧ ∀ i, i < xs.length → w.cell? ⟨b, o + i, none⟩ = some (.string (xs.getD i ⟨#[]⟩))

/-- The bool that tells whether two rows of texts are the same. -/
def eqs (xs ys : List ByteArray) : Bool := decide (xs = ys)

/-- the first k are the same -/
def UpEq (xs ys : List ByteArray) (k : Nat) : Prop := ∀ j, j < k → xs.getD j ⟨#[]⟩ = ys.getD j ⟨#[]⟩
theorem eqs_no {xs ys : List ByteArray} (k : Nat) (h : k < xs.length) (hne : xs.getD k ⟨#[]⟩ ≠ ys.getD k ⟨#[]⟩) : eqs xs ys = false := by
  unfold eqs; rw [decide_eq_false_iff_not]; intro e; exact hne (by rw [e])
theorem eqs_len {xs ys : List ByteArray} (h : xs.length ≠ ys.length) : eqs xs ys = false := by
  unfold eqs; rw [decide_eq_false_iff_not]; intro e; exact h (by rw [e])
theorem eqs_yes {xs ys : List ByteArray} (hl : xs.length = ys.length) (h : UpEq xs ys xs.length) : eqs xs ys = true := by
  unfold eqs; rw [decide_eq_true_iff]
  apply List.ext_getElem hl
  intro i h1 h2
  have := h i h1
  rw [List.getD_eq_getElem?_getD, List.getD_eq_getElem?_getD, List.getElem?_eq_getElem h1, List.getElem?_eq_getElem h2] at this
  simpa using this
theorem beq_yes {x y : ByteArray} (h : x = y) : (x.toList == y.toList) = true := by rw [h]; simp
theorem beq_no {x y : ByteArray} (h : x ≠ y) : (x.toList == y.toList) = false := by
  rw [beq_eq_false_iff_ne]; intro e; apply h; apply Lex.lst_inj; unfold Lex.lst; rw [← ByteArray.toList_eq, ← ByteArray.toList_eq, e]
theorem ret_bool {a b : Bool} (h : a = b) : Ending.returned (.bool a) = .returned (.bool b) := by rw [h]

set_option maxHeartbeats 400000 in
theorem same_len (a a' : Option Addr) (n n' c c' : Nat) (xs ys : List ByteArray) (w : World) (h1 : n = xs.length) (h2 : n' = ys.length) (hne : n ≠ n') (hm : n ≤ 60000) (hm' : n' ≤ 60000) :
    Calls Try.prog 14 #[.slice a n c, .slice a' n' c'] w fun e w' => e = .returned (.bool (eqs xs ys)) ∧ ∃ m, w' = w.drewN m := by
  have he : eqs xs ys = false := eqs_len (by omega)
  rw [he]
  clear he h1 h2
  have ht : ((n : Int) == (n' : Int)) = false := by rw [beq_eq_false_iff_ne]; omega
  have ht2 : ((n : Int) != (n' : Int)) = true := by rw [bne_iff_ne]; omega
  go_enter Try.func14, Try.ntmps14
  go_wp2
  go_ret
  exact ⟨rfl, 0, rfl⟩

set_option maxHeartbeats 800000 in
theorem same_full (b o c b' o' c' n : Nat) (xs ys : List ByteArray) (w : World) (h1 : xs.length = n) (h2 : ys.length = n) (hm : n ≤ 60000)
    (hx : ∀ i, i < n → w.cell? ⟨b, o + i, none⟩ = some (.string (xs.getD i ⟨#[]⟩))) (hy : ∀ i, i < n → w.cell? ⟨b', o' + i, none⟩ = some (.string (ys.getD i ⟨#[]⟩))) :
    Calls Try.prog 14 #[.slice (some ⟨b, o, none⟩) n c, .slice (some ⟨b', o', none⟩) n c'] w fun e w' => e = .returned (.bool (eqs xs ys)) ∧ ∃ m, w' = w.drewN m := by
  have HX := Lib.hid hx; clear hx
  have HY := Lib.hid hy; clear hy
  have H1 := Lib.hid h1; clear h1
  have H2 := Lib.hid h2; clear h2
  go_enter Try.func14, Try.ntmps14
  go_wp2
  go_loopw [5] (fun v wr => ∃ k m : Nat, k ≤ n ∧ v = .int .i64 k ∧ UpEq xs ys k ∧ wr = w.drewN m) (fun v _ => n - (intOf v).toNat)
  case atStart => exact ⟨0, 0, Nat.zero_le _, rfl, fun j hj => absurd hj (by omega), rfl⟩
  case round =>
    obtain ⟨k, m, hk, rfl, hu, rfl⟩ := hrel
    by_cases hlt : k < n
    · have hcx := HX.out k hlt
      have hcy := HY.out k hlt
      obtain ⟨x, hxe⟩ : ∃ x, x = xs.getD k ⟨#[]⟩ := ⟨_, rfl⟩
      obtain ⟨y, hye⟩ : ∃ y, y = ys.getD k ⟨#[]⟩ := ⟨_, rfl⟩
      rw [← hxe] at hcx
      rw [← hye] at hcy
      have hkb : (k : Int) < (n : Int) := by omega
      by_cases hxy : x = y
      · have hu' : UpEq xs ys (k + 1) := fun j hj => by
          by_cases e : j = k
          · rw [e, ← hxe, ← hye, hxy]
          · exact hu j (by omega)
        have hb := beq_yes hxy
        clear hxe hye hxy
        go_wp2_with fail
        go_quiet (fail)
        go_wp2
        go_roundw
        case rel => exact ⟨k + 1, _, by omega, by go_num, hu', rfl⟩
        case measure => simp [intOf]; omega
      · have he : eqs xs ys = false := eqs_no k (by rw [H1.out]; exact hlt) (by rw [← hxe, ← hye]; exact hxy)
        have HE := Lib.hid he; clear he
        have hb := beq_no hxy
        clear hxe hye hxy
        go_wp2_with fail
        go_quiet (fail)
        go_wp2
        go_ret
        exact ⟨ret_bool HE.out.symm, m + nq, by simp⟩
    · have he : eqs xs ys = true := eqs_yes (by rw [H1.out, H2.out]) (fun j hj => hu j (by rw [H1.out] at hj; omega))
      have HE := Lib.hid he; clear he
      go_wp2
      go_ret
      exact ⟨ret_bool HE.out.symm, _, rfl⟩

set_option maxHeartbeats 400000 in
theorem same_zero (a a' : Option Addr) (c c' : Nat) (w : World) :
    Calls Try.prog 14 #[.slice a 0 c, .slice a' 0 c'] w fun e w' => e = .returned (.bool (eqs [] [])) ∧ ∃ m, w' = w.drewN m := by
  have he : eqs [] [] = true := by unfold eqs; simp
  rw [he]; clear he
  go_enter Try.func14, Try.ntmps14
  go_wp2
  refine wp_loop_rounds 1 ?_
  rw [rounds_succ]
  go_wp2
  go_ret
  exact ⟨rfl, 0, rfl⟩

theorem same_any (va vb : Value) (xs ys : List ByteArray) (w : World) (hx : Strs w va xs) (hy : Strs w vb ys) (h1 : xs.length ≤ 60000) (h2 : ys.length ≤ 60000) :
    Calls Try.prog 14 #[va, vb] w fun e w' => e = .returned (.bool (eqs xs ys)) ∧ ∃ m, w' = w.drewN m := by
  rcases hx with ⟨rfl, rfl⟩ | ⟨b, o, c, rfl, _, hcx⟩
  · rcases hy with ⟨rfl, rfl⟩ | ⟨b', o', c', rfl, _, hcy⟩
    · exact same_zero none none 0 0 w
    · by_cases hz : ys.length = 0
      · have e := List.length_eq_zero_iff.1 hz
        subst e; exact same_zero none _ 0 c' w
      · exact same_len none _ 0 ys.length 0 c' [] ys w rfl rfl (by omega) (by omega) h2
  · rcases hy with ⟨rfl, rfl⟩ | ⟨b', o', c', rfl, _, hcy⟩
    · by_cases hz : xs.length = 0
      · have e := List.length_eq_zero_iff.1 hz
        subst e; exact same_zero _ none c 0 w
      · exact same_len _ none xs.length 0 c 0 xs [] w rfl rfl (by omega) h1 (by omega)
    · by_cases hl : xs.length = ys.length
      · rw [← hl]; rw [← hl] at hcy
        exact same_full b o c b' o' c' xs.length xs ys w rfl hl.symm h1 hcx hcy
      · exact same_len _ _ xs.length ys.length c c' xs ys w rfl rfl hl h1 h2
end Go.Proofs.Ytmcjnhbabmajhaa
