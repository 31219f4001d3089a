/- What is reckoned of one cell, and of two: plain functions, by the words' names. -/
import Derived.Test.YthaoifccdheldaaRDiv
namespace Go.Proofs.Ythaoifccdheldaa
open Go.RowKit
set_option linter.unusedVariables false

def flg (p : Bool) : Int := if p = true then -1 else 0
def vAbs (a : Int) : Int := if 0 ≤ a then a else wrap64 (-a)
def vInv (a : Int) : Int := bits .xor .i64 (-1) a
def vAl (a : Int) : Int := bits .andNot .i64 (wrap64 (wrap64 (a + 8) - 1)) 7
def vShl (a b : Int) : Int := wrap64 (IntKind.u64.wrap (IntKind.u64.wrap a * 2 ^ min (IntKind.u64.wrap b).toNat 64))
def vShr (a b : Int) : Int := wrap64 (IntKind.u64.wrap a / 2 ^ min (IntKind.u64.wrap b).toNat 64)
def vMin (a b : Int) : Int := if a < b then a else b
def vMax (a b : Int) : Int := if a < b then b else a
def oneV (s : ByteArray) (a : Int) : Int :=
  if s = ⟨#[78, 69, 71, 65, 84, 69]⟩ then wrap64 (-a)
  else if s = ⟨#[65, 66, 83]⟩ then vAbs a
  else if s = ⟨#[73, 78, 86, 69, 82, 84]⟩ then vInv a
  else if s = ⟨#[49, 43]⟩ then wrap64 (a + 1)
  else if s = ⟨#[49, 45]⟩ then wrap64 (a - 1)
  else if s = ⟨#[50, 42]⟩ then wrap64 (a * 2)
  else if s = ⟨#[50, 47]⟩ then a / 2
  else if s = ⟨#[48, 61]⟩ then flg (decide (a = 0))
  else if s = ⟨#[48, 60]⟩ then flg (decide (a < 0))
  else if s = ⟨#[48, 60, 62]⟩ then flg (decide (a ≠ 0))
  else if s = ⟨#[48, 62]⟩ then flg (decide (0 < a))
  else if s = ⟨#[67, 69, 76, 76, 83]⟩ then wrap64 (a * 8)
  else if s = ⟨#[67, 69, 76, 76, 43]⟩ then wrap64 (a + 8)
  else if s = ⟨#[65, 76, 73, 71, 78, 69, 68]⟩ then vAl a
  else 0
def oneB (s : ByteArray) : Bool :=
  if s = ⟨#[78, 69, 71, 65, 84, 69]⟩ then true
  else if s = ⟨#[65, 66, 83]⟩ then true
  else if s = ⟨#[73, 78, 86, 69, 82, 84]⟩ then true
  else if s = ⟨#[49, 43]⟩ then true
  else if s = ⟨#[49, 45]⟩ then true
  else if s = ⟨#[50, 42]⟩ then true
  else if s = ⟨#[50, 47]⟩ then true
  else if s = ⟨#[48, 61]⟩ then true
  else if s = ⟨#[48, 60]⟩ then true
  else if s = ⟨#[48, 60, 62]⟩ then true
  else if s = ⟨#[48, 62]⟩ then true
  else if s = ⟨#[67, 69, 76, 76, 83]⟩ then true
  else if s = ⟨#[67, 69, 76, 76, 43]⟩ then true
  else if s = ⟨#[65, 76, 73, 71, 78, 69, 68]⟩ then true
  else false
theorem oneV_NEG (a : Int) : oneV ⟨#[78, 69, 71, 65, 84, 69]⟩ a = wrap64 (-a) := rfl
theorem oneV_ABS (a : Int) : oneV ⟨#[65, 66, 83]⟩ a = vAbs a := rfl
theorem oneV_INV (a : Int) : oneV ⟨#[73, 78, 86, 69, 82, 84]⟩ a = vInv a := rfl
theorem oneV_INC (a : Int) : oneV ⟨#[49, 43]⟩ a = wrap64 (a + 1) := rfl
theorem oneV_DEC (a : Int) : oneV ⟨#[49, 45]⟩ a = wrap64 (a - 1) := rfl
theorem oneV_DBL (a : Int) : oneV ⟨#[50, 42]⟩ a = wrap64 (a * 2) := rfl
theorem oneV_HLF (a : Int) : oneV ⟨#[50, 47]⟩ a = a / 2 := rfl
theorem oneV_EQZ (a : Int) : oneV ⟨#[48, 61]⟩ a = flg (decide (a = 0)) := rfl
theorem oneV_LTZ (a : Int) : oneV ⟨#[48, 60]⟩ a = flg (decide (a < 0)) := rfl
theorem oneV_NEZ (a : Int) : oneV ⟨#[48, 60, 62]⟩ a = flg (decide (a ≠ 0)) := rfl
theorem oneV_GTZ (a : Int) : oneV ⟨#[48, 62]⟩ a = flg (decide (0 < a)) := rfl
theorem oneV_CELLS (a : Int) : oneV ⟨#[67, 69, 76, 76, 83]⟩ a = wrap64 (a * 8) := rfl
theorem oneV_CELLP (a : Int) : oneV ⟨#[67, 69, 76, 76, 43]⟩ a = wrap64 (a + 8) := rfl
theorem oneV_ALN (a : Int) : oneV ⟨#[65, 76, 73, 71, 78, 69, 68]⟩ a = vAl a := rfl
theorem flg_t {p : Prop} [Decidable p] (h : p) : flg (decide p) = -1 := by rw [decide_eq_true h]; rfl
theorem flg_f {p : Prop} [Decidable p] (h : ¬ p) : flg (decide p) = 0 := by rw [decide_eq_false h]; rfl
theorem str_ne {s t : ByteArray} (h : s ≠ t) : (s.toList == t.data.toList) = false := by
  rw [beq_eq_false_iff_ne]; intro e; apply h; rw [ByteArray.toList_eq] at e; cases s; cases t; simp at e; cases e; rfl
end Go.Proofs.Ythaoifccdheldaa
