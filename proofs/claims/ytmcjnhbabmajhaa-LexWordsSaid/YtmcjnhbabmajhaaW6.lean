/- The walk of lex.Words, a loop over the function lex.each: a new row that holds the words, one behind the other. -/
import Derived.RangeFuncBox
import Derived.RangeFuncLeaves
import Derived.Shelf.Abstract
import Derived.WalkKit
import Derived.OwnWalkIn
import Derived.TacticsInMore
import Derived.LoopNIn
import Derived.LoopIn
import Derived.Maps.AppendAt
import Derived.Test.YtmcjnhbabmajhaaW5
namespace Go.Proofs.Ytmcjnhbabmajhaa
open Go.RowKit Go.Shelf
set_option linter.unusedVariables false
attribute [local go_sem] Oper.semAt_some

def strLen : Value → Nat
  | .string b => b.size
  | _ => 0
def left (s : ByteArray) (x y : Value) : Nat := if strLen x = 0 then 0 else s.size + 1 - (intOf y).toNat
theorem left_less (s : ByteArray) (k : Nat) (hk : k ≤ s.size) (hv : (Lex.wa s k).size ≠ 0) :
    left s (.string (Lex.wa s (Lex.na s k))) (.int .i64 (Lex.na s (Lex.na s k) : Nat)) < left s (.string (Lex.wa s k)) (.int .i64 (Lex.na s k : Nat)) := by
  have h1 := Lex.na_le s k
  have h2 := Lex.na_gt s (Lex.na s k) h1
  have h3 := Lex.na_le s (Lex.na s k)
  have e1 : ∀ b : ByteArray, strLen (.string b) = b.size := fun _ => rfl
  have e2 : ∀ m : Nat, (intOf (.int .i64 (m : Int))).toNat = m := fun _ => rfl
  unfold left
  rw [e1, e1, e2, e2]
  generalize (Lex.wa s k).size = p at *
  generalize (Lex.wa s (Lex.na s k)).size = q at *
  generalize Lex.na s (Lex.na s k) = u at *
  generalize Lex.na s k = v at *
  rw [if_neg hv]
  split <;> omega

/-- What a round that goes on keeps: the box of the line. -/
def KpB (Bn : Nat) (W W' : World) : Prop := ∀ u, W.cell? ⟨Bn, 0, none⟩ = some u → W'.cell? ⟨Bn, 0, none⟩ = some u
theorem kpB_t {Bn : Nat} {A B C : World} (h : KpB Bn A B) (k : KpB Bn B C) : KpB Bn A C := fun u hu => k u (h u hu)
theorem kpB_b {Bn : Nat} (W : World) (l : Nat) (o o' : Obj) (h : W.heap[l]? = some o) (ho : o.isCells = false) : KpB Bn W (W.putObj l o') := fun u hu =>
  cell_kept hu (grownBy_putObj' W l o') (fun r e => by cases e; exact ⟨_, h, ho⟩)
theorem owns_weak {W : World} {base base' : Nat} {e : TypeId} {size : Nat} {v : Value} {k : Nat} {xs : List Value} (h : W.ownsRow base e size v k xs) (hb : base' ≤ base) : W.ownsRow base' e size v k xs := by
  refine ⟨h.1, ?_⟩
  rcases h.2 with h | ⟨g, cap, cur, h1, h2, h3⟩
  · exact Or.inl h
  · exact Or.inr ⟨g, cap, cur, h1, by omega, h3⟩
theorem kpB_app {W w1 : World} {Bn B base : Nat} {v v' : Value} {e : TypeId} {size k : Nat} {xs : List Value} {tmp : Obj} (hrow : W.ownsRow base e size v k xs) (hb : Bn < base) (hne : Bn ≠ B)
    (hgrow : (W.alloc tmp).grownBy w1 v.ownBlock) : KpB Bn W (w1.setCell ⟨B, 0, none⟩ v') := fun u hu => by
  have hlt : Bn < W.heap.size := World.block_lt_of_cell? _ _ hu
  have e1 : w1.heap[Bn]? = W.heap[Bn]? := (hgrow.block Bn (by simp; omega) (fun e => by have := (hrow.lt Bn e.symm).1; omega)).trans (Below.heap_alloc W tmp Bn hlt)
  have e2 : (w1.setCell ⟨B, 0, none⟩ v').heap[Bn]? = w1.heap[Bn]? := Below.heap_setCell _ _ _ _ hne
  rw [← hu]
  exact World.cell?_of_block (w := W) (a := ⟨Bn, 0, none⟩) (e2.trans e1)

set_option maxRecDepth 100000 in
set_option maxHeartbeats 1000000 in
/-- lex.each's function: for every loop body that keeps what lay below n0. -/
theorem each1_in (F : Fence) (n : Nat) (h27 : F.fn 27) (h10 : F.fn 10) (h21 : F.fn 21) (hro : F.round = none) (hn : 1 ≤ n) (hw10 : ∀ (s : ByteArray) (k : Nat) (w : World), s.size ≤ 60000 → k ≤ s.size → CallsIn F (n - 1) Try.prog 10 #[.string s, .int .i64 (k : Int)] w fun e w' => e = .returned (.tuple #[.string (Lex.wa s k), .int .i64 (Lex.na s k : Nat)]) ∧ w = w')
    (l Bn : Nat) (s : ByteArray) (hs : s.size ≤ 60000) (J Jx : List ByteArray → World → Prop)
    (hY : ∀ pre x W, J pre W → pre.length < (Lex.ws s).length → YieldAt F (n - 1) Try.prog l #[.string x] W fun e W' =>
      (e = .returned (.bool true) ∧ J (pre ++ [x]) W' ∧ KpB Bn W W') ∨ (e = .returned (.bool false) ∧ Jx (pre ++ [x]) W'))
    (W : World) (hBn : W.cell? ⟨Bn, 0, none⟩ = some (.string s)) (h0 : J [] W) :
    CallsIn F n Try.prog 27 #[.func (.yield l) #[] #[], .pointer (some ⟨Bn, 0, none⟩)] W fun e W' => (∃ v, e = .returned v) ∧
      ((∃ ys, ys = Lex.ws s ∧ J ys W') ∨ (∃ pre, pre <+: Lex.ws s ∧ Jx pre W')) := by
  refine callsIn_of_wp Try.func27 rfl h27 ?_ hro
  simp only [Try.ntmps27, List.size_toArray, List.length_cons, List.length_nil, Nat.reduceAdd, Nat.reduceSub, Array.replicate_succ, Array.replicate_zero, List.push_toArray, List.append_toArray, List.nil_append, List.cons_append]
  gi_wp2_with (gi_at_call 10; refine (hw10 s 0 _ hs (by omega)).mono ?_; rintro e w' ⟨rfl, rfl⟩)
  gi_loopw [3, 4] (fun x y wr => ∃ (g k : Nat) (pre : List ByteArray), x = .string (Lex.wa s k) ∧ y = .int .i64 (Lex.na s k : Nat) ∧ At s g k pre ∧ J pre wr ∧ wr.cell? ⟨Bn, 0, none⟩ = some (.string s))
    (fun x y wr => left s x y)
  case atStart => exact ⟨_, 0, [], rfl, rfl, At.start s, h0, hBn⟩
  case round =>
    obtain ⟨g, k, pre, rfl, rfl, hat, hJs, hc⟩ := hrel
    by_cases hv : (Lex.wa s k).size = 0
    · have hE := Lib.hid (hat.stop hv)
      have he := isEmpty_yes _ hv
      clear hv
      gi_wp2
      go_end0
      exact ⟨⟨_, rfl⟩, .inl ⟨pre, hE.out.symm, hJs⟩⟩
    · have hm := left_less s k hat.1 hv
      have HM := Lib.hid hm; clear hm
      have he := isEmpty_no _ hv
      have hlen : pre.length < (Lex.ws s).length := by
        obtain ⟨g', hg', hat'⟩ := hat.more hv
        have := hat'.2.2
        rw [this]; simp
      obtain ⟨g', hg', hat'⟩ := hat.more hv
      have HG := Lib.hid hg'; clear hg'
      have hk := hat'.1
      clear hv
      obtain ⟨fn, tmps, assign, body, hy, hR⟩ := hY pre (Lex.wa s k) wr hJs hlen
      gi_wp2_with (fail)
      refine hR.mono ?_
      rintro e W3 (⟨rfl, hJ3, hk3⟩ | ⟨rfl, hJx3⟩)
      · have hc3 : W3.cell? ⟨Bn, 0, none⟩ = some (.string s) := hk3 _ hc
        gi_wp2_with (gi_at_call 10; refine (hw10 s (Lex.na s k) _ hs hk).mono ?_; rintro e w' ⟨rfl, rfl⟩)
        go_roundw
        case rel => exact ⟨g', Lex.na s k, pre ++ [Lex.wa s k], rfl, rfl, hat', hJ3, hc3⟩
        case measure => exact HM.out
      · have hpre : pre ++ [Lex.wa s k] <+: Lex.ws s := ⟨Lex.wf s g' (Lex.na s k), hat'.2.2.symm⟩
        gi_wp2
        refine bodyPost_ret (results_none rfl _ _ _) rfl ?_
        exact ⟨⟨_, rfl⟩, .inr ⟨pre ++ [Lex.wa s k], hpre, hJx3⟩⟩

set_option maxHeartbeats 1000000 in
/-- lex.each: its argument is boxed; the function value captures the box. -/
theorem each_in (F : Fence) (n : Nat) (h24 : F.fn 24) (hro : F.round = none) (s : ByteArray) (w : World) :
    CallsIn F n Try.prog 24 #[.string s] w fun e w' => e = .returned (.func (.func 27) #[] #[.pointer (some ⟨w.heap.size, 0, none⟩)]) ∧ w' = w.alloc (.cells #[.string s] 9) := by
  refine callsIn_of_wp Try.func24 rfl h24 ?_ hro
  simp only [Try.ntmps24, List.size_toArray, List.length_cons, List.length_nil, Nat.reduceAdd, Nat.reduceSub, Array.replicate_succ, Array.replicate_zero, List.push_toArray, List.append_toArray, List.nil_append, List.cons_append]
  gi_wp2
  go_ret
  exact ⟨rfl, rfl⟩

theorem each_stops (F : Fence) (n : Nat) (h27 : F.fn 27) (h10 : F.fn 10) (h21 : F.fn 21) (hro : F.round = none) (hn : 1 ≤ n) (hw10 : ∀ (s : ByteArray) (k : Nat) (w : World), s.size ≤ 60000 → k ≤ s.size → CallsIn F (n - 1) Try.prog 10 #[.string s, .int .i64 (k : Int)] w fun e w' => e = .returned (.tuple #[.string (Lex.wa s k), .int .i64 (Lex.na s k : Nat)]) ∧ w = w')
    (Bn : Nat) (s : ByteArray) (hs : s.size ≤ 60000) (w : World) (hBl : Bn < w.heap.size) (hc : w.cell? ⟨Bn, 0, none⟩ = some (.string s)) :
    SeqStopsK F n Try.prog 27 #[.pointer (some ⟨Bn, 0, none⟩)] (fun x : ByteArray => #[Value.string x]) (KpB Bn) (fun ys => ys = Lex.ws s) (fun pre => pre <+: Lex.ws s) (Lex.ws s).length w := fun l J Jx W hW _ _ hY h0 =>
  each1_in F n h27 h10 h21 hro hn hw10 l Bn s hs J Jx hY W ((hW.cell (p := ⟨Bn, 0, none⟩) hBl).trans hc) h0

set_option maxRecDepth 100000 in
set_option maxHeartbeats 2000000 in
theorem words_in (s : ByteArray) (w : World) (hs : s.size ≤ 60000) : CallsIn Fence.wide 4 Try.prog 15 #[.string s] w (MadeWords s w) := by
  have hw10 : ∀ (s : ByteArray) (k : Nat) (w : World), s.size ≤ 60000 → k ≤ s.size → CallsIn Fence.wide (4 - 1 - 1) Try.prog 10 #[.string s, .int .i64 (k : Int)] w fun e w' => e = .returned (.tuple #[.string (Lex.wa s k), .int .i64 (Lex.na s k : Nat)]) ∧ w = w' :=
    fun s k w h1 h2 => callsIn_wide.2 (word_at s k w h1 h2)
  have hro : Fence.wide.round = none := rfl
  have h15 : Fence.wide.fn 15 := trivial
  have h24 : Fence.wide.fn 24 := trivial
  have h27 : Fence.wide.fn 27 := trivial
  have h10 : Fence.wide.fn 10 := trivial
  have h21 : Fence.wide.fn 21 := trivial
  generalize Fence.wide = F at *
  obtain ⟨i0, hi, hz0, hz1, hz2⟩ := info_parts Try.info9
  have hwl := Lex.ws_length s
  refine callsIn_of_wp_marks Try.func15 rfl h15 ?_ hro
  simp only [Try.ntmps15, List.size_toArray, List.length_cons, List.length_nil, Nat.reduceAdd, Nat.reduceSub, Array.replicate_succ, Array.replicate_zero, List.push_toArray, List.append_toArray, List.nil_append, List.cons_append]
  gi_wp2_with (gi_at_call 24; refine (each_in F (4 - 1) h24 hro s _).mono ?_; rintro e w' ⟨rfl, rfl⟩)
  have bO := Boxed.new w 30 (.slice none 0 0)
  have bN := Boxed.new (w.alloc (.cells #[.slice none 0 0] 30)) 9 (.string s)
  rw [World.size_alloc] at bN
  have hB0 : Below w.heap.size w ((w.alloc (.cells #[.slice none 0 0] 30)).alloc (.cells #[.string s] 9)) := ((Below.refl _ w).alloc (Nat.le_refl _) _).alloc (by simp) _
  obtain ⟨W0, hW0⟩ : ∃ W0, ((w.alloc (.cells #[.slice none 0 0] 30)).alloc (.cells #[.string s] 9)) = W0 := ⟨_, rfl⟩
  have hsz0 : W0.heap.size = w.heap.size + 2 := by rw [← hW0]; simp
  have bO2 : Boxed W0 w.heap.size 30 (.slice none 0 0) := by rw [← hW0]; exact bO.alloc _
  rw [hW0] at bN hB0 ⊢
  clear hW0 bO
  have hS0 := Lib.hid hsz0
  refine wpIn_rangeFunc_ownG hro (by omega) (gf := 27) (lb := #[.pointer (some ⟨w.heap.size + 1, 0, none⟩)]) rfl h27 (enters_of Try.func27 (by kernel_rfl) rfl)
    (each_stops F (4 - 1) h27 h10 h21 hro (by omega) hw10 (w.heap.size + 1) s hs _ (by omega) bN.cell) kpB_t (fun W l o o' _ h ho _ => kpB_b W l o o' h ho) (Below.refl _ _) (fun _ => rfl)
    (fun pre W => (∃ v, Boxed W w.heap.size 30 v ∧ W.ownsRow (w.heap.size + 2) 9 1 v pre.length (pre.map Value.string) ∧ True) ∧ Below w.heap.size W0 W)
    (fun _ _ _ => False)
    (OwnFrom.and (Own.from (holdsRow_own (w.heap.size + 2) w.heap.size 30 9 1 (fun pre : List ByteArray => pre.length) (fun pre : List ByteArray => pre.map Value.string) (fun _ _ => True)) _) (ownFrom_below (by omega) (by omega)))
    (fun _ _ _ _ _ hs _ _ => hs)
    ⟨⟨_, bO2, World.ownsRow_nil _ _ _ _, trivial⟩, Below.refl _ _⟩
    (fun x => { tmps := #[.string s, undef, .slice none 0 0, .pointer (some ⟨w.heap.size, 0, none⟩), .string x, .string s, .func (.func 27) #[] #[.pointer (some ⟨w.heap.size + 1, 0, none⟩)], .string x, undef, undef, undef, undef, undef], defers := [] }) ?assign ?body ?done ?stop
  case assign =>
    intro l x W K hK
    gi_wp2
    exact hK
  case body =>
    rintro l pre x W ⟨⟨v, hv, hrow, _⟩, hB⟩ hlt
    have hc := hv.cell
    have hsz := hB.size
    clear hsz0
    have hs2 : w.heap.size + 2 ≤ W.heap.size := by have := hS0.out; omega
    gi_wp2_with (gi_at_builtin; refine wpListIn_append_own _ rfl _ _ 30 rfl (w.heap.size + 2) 9 i0 (.string ⟨#[]⟩) 1 16 Try.underlying30 hi hz0 hz1 hz2 rfl (by decide) _ _ _ rfl (hrow.alloc _) ⟨W.heap.size, 0, none⟩ 1 1 [.string x] rfl rfl (cell_one_new _ _ _) (by simp [Value.oneCell']) (by unfold maxLen; omega) (by omega) (by simp; omega) ?_; intro v' w1 hown' hgrow _; obtain ⟨g', cap', rfl⟩ := ownsRow_succ hown'; have hstrong := hown'; obtain ⟨hv1, hv2, hr2, hk2, hb2⟩ := hv.appended (by decide) (owns_weak hrow (show w.heap.size ≤ w.heap.size + 2 by omega)) (show w.heap.size ≤ W.heap.size by omega) (Nat.le_refl _) (owns_weak hown' (show w.heap.size ≤ w.heap.size + 2 by omega)) hgrow; have hc1 := hv1.cell; have hf1 := hv1.frozen)
    have hkp := kpB_app (v' := .slice (some ⟨g', 0, none⟩) (pre.length + 1) cap') (B := w.heap.size) hrow (show w.heap.size + 1 < w.heap.size + 2 by omega) (by omega) hgrow
    have hrow' := hstrong.kept (grownBy_setCell' w1 w.heap.size (.slice (some ⟨g', 0, none⟩) (pre.length + 1) cap')) (.inr (hv1.not_row (by decide) hstrong).symm)
    exact ⟨hk2.from _, hkp, ⟨_, hv2, by simpa using hrow', trivial⟩, hB.trans hb2⟩
  case done =>
    rintro D ys W hD rfl ⟨⟨v, hv, hrow, _⟩, hB⟩ hK
    have hc := hv.cell
    gi_wp2
    refine ⟨by simp, .inl ⟨_, _, rfl, run_takeDeferred hK, ?_⟩⟩
    exact ⟨_, results_tmp rfl _ _ _, v, rfl, owns_weak (ownsRow_putObj hrow _ hK rfl) (by omega), (hB0.trans hB).trans (belowK_b (w := w) (Nat.le_refl _) W D _ _ (by omega) hK rfl rfl)⟩
  case stop =>
    rintro D c pre W _ _ h _
    exact h.elim

theorem words_any (s : ByteArray) (w : World) (hs : s.size ≤ 60000) : Calls Try.prog 15 #[.string s] w (MadeWords s w) := callsIn_wide.1 (words_in s w hs)
end Go.Proofs.Ytmcjnhbabmajhaa
