/- The walks of Upper and Alike in both texts: great letters, and whether two texts are alike. -/
import Derived.Test.YtmcjnhbabmajhaaW5
namespace Go.Proofs.Ytmcjnhbabmajhaa
open Go.RowKit
set_option linter.unusedVariables false

/-- a world behind the turning of one byte -/
def Turned (w : World) (a : Addr) (c : UInt8) (w' : World) : Prop := (w' = w ∧ Lex.up c = c) ∨ w' = w.setCell a (.int .u8 ((Lex.up c).toNat : Int))

theorem up_same (c : UInt8) (h : ¬ (97 ≤ (c.toNat : Int) ∧ (c.toNat : Int) ≤ 122)) : Lex.up c = c := by unfold Lex.up; rw [if_neg (by omega)]
theorem up_less (c : UInt8) (h1 : 97 ≤ (c.toNat : Int)) (h2 : (c.toNat : Int) ≤ 122) : ((Lex.up c).toNat : Int) = (c.toNat : Int) - 32 := by rw [Lex.up_toNat, if_pos (by omega)]; omega

set_option maxHeartbeats 400000 in
theorem turn_any (b o : Nat) (c : UInt8) (w : World) (hc : w.cell? ⟨b, o, none⟩ = some (.int .u8 (c.toNat : Int))) (hf : w.frozen? ⟨b, o, none⟩ = false) :
    Calls Try.prog 25 #[.pointer (some ⟨b, o, none⟩)] w fun e w' => e = .returned (.tuple #[]) ∧ Turned w ⟨b, o, none⟩ c w' := by
  have hlt := c.toNat_lt
  by_cases h1 : 97 ≤ (c.toNat : Int)
  · by_cases h2 : (c.toNat : Int) ≤ 122
    · have hu := up_less c h1 h2
      have H := Lib.hid hu; clear hu
      go_enter Try.func25, Try.ntmps25
      go_wp2
      go_end0
      exact ⟨rfl, .inr (by rw [H.out])⟩
    · have hu := up_same c (fun h => h2 h.2)
      have H := Lib.hid hu; clear hu
      go_enter Try.func25, Try.ntmps25
      go_wp2
      go_end0
      exact ⟨rfl, .inl ⟨rfl, H.out⟩⟩
  · have hu := up_same c (fun h => h1 h.1)
    have H := Lib.hid hu; clear hu
    go_enter Try.func25, Try.ntmps25
    go_wp2
    go_end0
    exact ⟨rfl, .inl ⟨rfl, H.out⟩⟩

/-- byte j of a text of which the first k are turned -/
def half (s : ByteArray) (k j : Nat) : UInt8 := if j < k then Lex.up (s.data.toList.getD j 0) else s.data.toList.getD j 0
/-- a block that holds a text of which the first k are turned -/
def Halfway (s : ByteArray) (B k : Nat) (w : World) : Prop := ∀ j, j < s.size → w.cell? ⟨B, j, none⟩ = some (.int .u8 ((half s k j).toNat : Int)) ∧ w.frozen? ⟨B, j, none⟩ = false
theorem Halfway.step {s : ByteArray} {B k : Nat} {w w' : World} (h : Halfway s B k w) (hk : k < s.size) (ht : Turned w ⟨B, k, none⟩ (half s k k) w') : Halfway s B (k + 1) w' := by
  have e1 : half s k k = s.data.toList.getD k 0 := by unfold half; rw [if_neg (by omega)]
  have e2 : half s (k + 1) k = Lex.up (s.data.toList.getD k 0) := by unfold half; rw [if_pos (by omega)]
  have e3 : ∀ j, j ≠ k → half s (k + 1) j = half s k j := fun j hj => by
    unfold half
    by_cases h9 : j < k
    · rw [if_pos (by omega), if_pos h9]
    · rw [if_neg (by omega), if_neg h9]
  intro j hj
  rcases ht with ⟨rfl, hu⟩ | rfl
  · by_cases e : j = k
    · subst e; rw [e2, ← e1, hu]; exact h j hj
    · rw [e3 j e]; exact h j hj
  · by_cases e : j = k
    · subst e
      rw [e2, ← e1]
      exact ⟨World.cell?_setCell_same' _ _ _ (by rw [(h j hj).1]; rfl), by rw [World.frozen?_setCell]; exact (h j hj).2⟩
    · rw [e3 j e]
      exact ⟨(World.cell?_setCell_other _ _ _ _ (by intro he; cases he; exact e rfl)).trans (h j hj).1, by rw [World.frozen?_setCell]; exact (h j hj).2⟩

theorem Turned.below {w w' : World} {a : Addr} {c : UInt8} (h : Turned w a c w') {B : Nat} {w0 : World} (hB : Below B w0 w) (ha : B ≤ a.block) : Below B w0 w' := by
  rcases h with ⟨rfl, _⟩ | rfl
  · exact hB
  · exact hB.setCell ha _
theorem half_zero (s : ByteArray) (j : Nat) (hj : j < s.size) : half s 0 j = s.data.toList.getD j 0 := by unfold half; rw [if_neg (by omega)]
theorem halfway_start (s : ByteArray) (w : World) (cap : Nat) : Halfway s w.heap.size 0 (w.drew.alloc (.cells (bytesRow s cap) 5 ((bytesRow s cap).size, (bytesRow s cap).size + 1))) := by
  intro j hj
  have hz : (w.drew).heap.size = w.heap.size := rfl
  have h1 := World.cell?_alloc_mark w.drew (bytesRow s cap) 5 ((bytesRow s cap).size, (bytesRow s cap).size + 1) j
  have h2 := World.frozen?_alloc_mark w.drew (bytesRow s cap) 5 (bytesRow s cap).size ((bytesRow s cap).size + 1) j
  rw [hz] at h1 h2
  have hj' : j < s.data.size := hj
  have hsz : j < (bytesRow s cap).size := by
    have := bytesRow_at s cap j hj'
    exact (Array.getElem?_eq_some_iff.1 this).1
  refine ⟨h1.trans ?_, h2.trans ?_⟩
  · rw [bytesRow_at s cap j hj', half_zero s j hj]
    have : s.data.toList.getD j 0 = s.data[j] := by rw [List.getD_eq_getElem?_getD, Array.getElem?_toList, Array.getElem?_eq_getElem hj']; rfl
    rw [this]
  · simp; omega
theorem back_upper (s : ByteArray) (B cap : Nat) (w : World) (h : Halfway s B s.size w) :
    (convert 43 9 (.slice (some ⟨B, 0, none⟩) s.size cap)).run Try.prog w = .ok (.string (Lex.upper s)) w := by
  have hl : ((Lex.lst s).map Lex.up).length = s.size := by rw [List.length_map, Lex.lst_length]
  have := run_convert_bytes_back (P := Try.prog) w 43 9 5 ⟨B, 0, none⟩ cap ((Lex.lst s).map Lex.up) Try.underlying43 Try.underlying5 Try.underlying9 (fun j hj => by
    have hj' : j < s.size := by rw [hl] at hj; exact hj
    have e : ((⟨B, 0, none⟩ : Addr).add j) = ⟨B, j, none⟩ := by simp [Addr.add]; omega
    rw [e, (h j hj').1]
    unfold half
    rw [if_pos hj', List.getElem_map]
    have e2 : s.data.toList.getD j 0 = (Lex.lst s)[j]'(by rw [Lex.lst_length]; exact hj') := by
      rw [List.getD_eq_getElem?_getD]; unfold Lex.lst; rw [List.getElem?_eq_getElem (by simpa using hj')]; rfl
    rw [e2])
  rw [hl] at this
  exact this

theorem ret_str {a b : ByteArray} (h : a = b) : Ending.returned (.string a) = .returned (.string b) := by rw [h]

/-- The text in great letters, and nothing that lay has turned. -/
def MadeUpper (s : ByteArray) (w : World) (e : Ending) (w' : World) : Prop := e = .returned (.string (Lex.upper s)) ∧ Below w.heap.size w w'

set_option maxHeartbeats 400000 in
theorem upper_any (s : ByteArray) (w : World) (hs : s.size ≤ 60000) : Calls Try.prog 17 #[.string s] w (MadeUpper s w) := by
  have hst := halfway_start s w (grownCap w s.size 0 5)
  have hb0 : Below w.heap.size w (w.drew.alloc (.cells (bytesRow s (grownCap w s.size 0 5)) 5 ((bytesRow s (grownCap w s.size 0 5)).size, (bytesRow s (grownCap w s.size 0 5)).size + 1))) := ((Below.refl _ w).drew).alloc (Nat.le_refl _) _
  have hconv := run_bytes_of_string (P := Try.prog) w 9 43 5 s Try.underlying9 Try.underlying43 Try.underlying5
  generalize hcp : grownCap w s.size 0 5 = cap at *
  clear hcp
  generalize hW1 : w.drew.alloc (.cells (bytesRow s cap) 5 ((bytesRow s cap).size, (bytesRow s cap).size + 1)) = W1 at *
  clear hW1
  go_enter Try.func17, Try.ntmps17
  go_wp2_with fail
  clear hconv
  go_loopw [5, 10, 11, 12, 13, 14, 15, 16, 17, 18] (fun _ v _ _ _ _ _ _ _ _ wr => ∃ k : Nat, k ≤ s.size ∧ v = .int .i64 k ∧ Halfway s w.heap.size k wr ∧ Below w.heap.size w wr) (fun _ v _ _ _ _ _ _ _ _ _ => s.size - (intOf v).toNat)
  case atStart => exact ⟨0, Nat.zero_le _, rfl, hst, hb0⟩
  case round =>
    obtain ⟨k, hk, rfl, hh, hB⟩ := hrel
    by_cases hlt : k < s.size
    · have hcf := hh k hlt
      have hc := hcf.1
      have hf := hcf.2
      clear hcf
      have hstep : ∀ w', Turned wr ⟨w.heap.size, k, none⟩ (half s k k) w' → Halfway s w.heap.size (k + 1) w' := fun w' ht => hh.step hlt ht
      have HS := Lib.hid hstep; clear hstep
      have HH := Lib.hid hh; clear hh
      generalize half s k k = c at *
      go_wp2_with (go_at_call 25; refine (turn_any w.heap.size k c _ hc hf).mono ?_; rintro e w' ⟨rfl, ht⟩)
      go_roundw
      case rel => exact ⟨k + 1, by omega, by go_num, HS.out _ ht, ht.below hB (Nat.le_refl _)⟩
      case measure => simp [intOf]; omega
    · have hke : k = s.size := by omega
      have hback := back_upper s w.heap.size cap wr (by rw [← hke]; exact hh)
      clear hke hh
      go_wp2
      go_ret
      exact ⟨rfl, hB⟩

/-- the first k bytes in great letters -/
def upTo (s : ByteArray) (k : Nat) : ByteArray := ⟨(((Lex.lst s).take k).map Lex.up).toArray⟩
theorem lst_upTo (s : ByteArray) (k : Nat) : Lex.lst (upTo s k) = ((Lex.lst s).take k).map Lex.up := by simp [Lex.lst, upTo]
theorem size_upTo (s : ByteArray) (k : Nat) (h : k ≤ s.size) : (upTo s k).size = k := by
  rw [← Lex.lst_length, lst_upTo, List.length_map, List.length_take, Lex.lst_length]; omega
theorem upTo_zero (s : ByteArray) : upTo s 0 = ⟨#[]⟩ := by apply Lex.lst_inj; rw [lst_upTo]; simp [Lex.lst]
theorem upTo_all (s : ByteArray) : upTo s s.size = Lex.upper s := by
  apply Lex.lst_inj; rw [lst_upTo, Lex.lst_upper, List.take_of_length_le (by rw [Lex.lst_length]; exact Nat.le_refl _)]
theorem upTo_step (s : ByteArray) (k : Nat) (h : k < s.size) : upTo s k ++ ⟨#[Lex.up s[k]]⟩ = upTo s (k + 1) := by
  apply Lex.lst_inj
  rw [Lex.lst_append, lst_upTo, lst_upTo]
  have h' : k < (Lex.lst s).length := by rw [Lex.lst_length]; exact h
  rw [List.take_succ_eq_append_getElem h', List.map_append]
  rfl
theorem one_byte (w : World) (c : UInt8) (n : Int) (hn : n = (c.toNat : Int)) :
    (convert 43 9 (.slice (some ⟨w.heap.size, 0, none⟩) 1 1)).run Try.prog (w.alloc (.cells #[.int .u8 n] 5)) = .ok (.string ⟨#[c]⟩) (w.alloc (.cells #[.int .u8 n] 5)) := by
  have := run_convert_bytes_back (P := Try.prog) (w.alloc (.cells #[.int .u8 n] 5)) 43 9 5 ⟨w.heap.size, 0, none⟩ 1 [c] Try.underlying43 Try.underlying5 Try.underlying9 (fun j hj => by
    have : j = 0 := by simp at hj; exact hj
    subst this
    simp [Addr.add, hn])
  exact this

set_option maxHeartbeats 400000 in
theorem rupper_any (s : ByteArray) (w : World) (hs : s.size ≤ 60000) : Calls Try.prog 18 #[.string s] w (MadeUpper s w) := by
  go_enter Try.func18, Try.ntmps18
  go_wp2_with fail
  go_loopw [3, 4, 5] (fun x v _ wr => ∃ k : Nat, k ≤ s.size ∧ v = .int .i64 k ∧ x = .string (upTo s k) ∧ Below w.heap.size w wr) (fun _ v _ _ => s.size - (intOf v).toNat)
  case atStart => exact ⟨0, Nat.zero_le _, rfl, by rw [upTo_zero], Below.refl _ _⟩
  case round =>
    obtain ⟨k, hk, rfl, rfl, hB⟩ := hrel
    by_cases hlt : k < s.size
    · have hsz := size_upTo s k hk
      have hstep := upTo_step s k hlt
      have HS := Lib.hid hstep; clear hstep
      have hlt2 := (s[k]).toNat_lt
      have hB' : ∀ o, Below w.heap.size w (wr.alloc o) := fun o => hB.alloc hB.size o
      have hul : (upTo s k).size ≤ 60000 := by omega
      clear hsz
      generalize upTo s k = x at *
      by_cases hc : 97 ≤ (s[k].toNat : Int) ∧ (s[k].toNat : Int) ≤ 122
      · have hb := one_byte wr (Lex.up s[k]) ((s[k].toNat : Int) - 32) (up_less _ hc.1 hc.2).symm
        obtain ⟨h1, h2⟩ := hc
        generalize Lex.up s[k] = u at *
        go_wp2
        go_roundw
        case rel => exact ⟨k + 1, by omega, by go_num, by rw [HS.out], hB' _⟩
        case measure => simp [intOf]; omega
      · have hus := up_same _ hc
        have hb := one_byte wr s[k] (s[k].toNat : Int) rfl
        rw [hus] at HS
        clear hus
        have hor : (s[k].toNat : Int) < 97 ∨ (97 ≤ (s[k].toNat : Int) ∧ 122 < (s[k].toNat : Int)) := by omega
        clear hc
        rcases hor with h1 | ⟨h1, h2⟩
        all_goals
          go_wp2
          go_roundw
          case rel => exact ⟨k + 1, by omega, by go_num, by rw [HS.out], hB' _⟩
          case measure => simp [intOf]; omega
    · have hx : upTo s k = Lex.upper s := by
        have e : k = s.size := by omega
        rw [e]; exact upTo_all s
      have HX := Lib.hid hx; clear hx
      generalize upTo s k = x at *
      go_wp2
      go_ret
      refine ⟨?_, hB⟩
      have e := HX.out
      exact ret_str e

theorem ret_beq {a b : ByteArray} {p : Bool} (h : p = (a.toList == b.toList)) : Ending.returned (.bool (a.toList == b.toList)) = .returned (.bool p) := by rw [h]

/-- are two texts alike? -/
def alike (s t : ByteArray) : Bool := (Lex.upper s).toList == (Lex.upper t).toList
def ToldAlike (s t : ByteArray) (w : World) (e : Ending) (w' : World) : Prop := e = .returned (.bool (alike s t)) ∧ Below w.heap.size w w'

set_option maxHeartbeats 400000 in
theorem alike_any (s t : ByteArray) (w : World) (hs : s.size ≤ 60000) (ht : t.size ≤ 60000) : Calls Try.prog 19 #[.string s, .string t] w (ToldAlike s t w) := by
  go_enter Try.func19, Try.ntmps19
  go_wp2_with fail
  refine (upper_any s _ hs).mono ?_
  rintro e w1 ⟨rfl, hB1⟩
  go_wp2_with fail
  refine (upper_any t _ ht).mono ?_
  rintro e w2 ⟨rfl, hB2⟩
  go_wp2_with fail
  go_ret
  exact ⟨rfl, hB1.trans (hB2.mono hB1.size)⟩

set_option maxHeartbeats 400000 in
theorem ralike_any (s t : ByteArray) (w : World) (hs : s.size ≤ 60000) (ht : t.size ≤ 60000) : Calls Try.prog 20 #[.string s, .string t] w (ToldAlike s t w) := by
  go_enter Try.func20, Try.ntmps20
  go_wp2_with fail
  refine (rupper_any s _ hs).mono ?_
  rintro e w1 ⟨rfl, hB1⟩
  go_wp2_with fail
  refine (rupper_any t _ ht).mono ?_
  rintro e w2 ⟨rfl, hB2⟩
  go_wp2_with fail
  go_ret
  exact ⟨rfl, hB1.trans (hB2.mono hB1.size)⟩
end Go.Proofs.Ytmcjnhbabmajhaa
