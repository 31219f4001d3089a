/- What is reckoned of two cells, by any name. -/
import Derived.Test.YthaoifccdheldaaBit
namespace Go.Proofs.Ythaoifccdheldaa
open Go.RowKit
set_option linter.unusedVariables false

def twoV (s : ByteArray) (a b : Int) : Int :=
  if s = ⟨#[47]⟩ then vQ a b
  else if s = ⟨#[77, 79, 68]⟩ then vR a b
  else if s = ⟨#[43]⟩ then wrap64 (a + b)
  else if s = ⟨#[45]⟩ then wrap64 (a - b)
  else if s = ⟨#[42]⟩ then wrap64 (a * b)
  else if s = ⟨#[65, 78, 68]⟩ then bits .and .i64 a b
  else if s = ⟨#[79, 82]⟩ then bits .or .i64 a b
  else if s = ⟨#[88, 79, 82]⟩ then bits .xor .i64 a b
  else if s = ⟨#[76, 83, 72, 73, 70, 84]⟩ then vShl a b
  else if s = ⟨#[82, 83, 72, 73, 70, 84]⟩ then vShr a b
  else if s = ⟨#[77, 73, 78]⟩ then vMin a b
  else if s = ⟨#[77, 65, 88]⟩ then vMax a b
  else if s = ⟨#[61]⟩ then flg (decide (a = b))
  else if s = ⟨#[60, 62]⟩ then flg (decide (a ≠ b))
  else if s = ⟨#[60]⟩ then flg (decide (a < b))
  else if s = ⟨#[62]⟩ then flg (decide (b < a))
  else if s = ⟨#[60, 61]⟩ then flg (decide (a ≤ b))
  else if s = ⟨#[62, 61]⟩ then flg (decide (b ≤ a))
  else if s = ⟨#[85, 60]⟩ then flg (decide (IntKind.u64.wrap a < IntKind.u64.wrap b))
  else if s = ⟨#[85, 62]⟩ then flg (decide (IntKind.u64.wrap b < IntKind.u64.wrap a))
  else 0
def twoB (s : ByteArray) : Bool :=
  if s = ⟨#[47]⟩ then true
  else if s = ⟨#[77, 79, 68]⟩ then true
  else if s = ⟨#[43]⟩ then true
  else if s = ⟨#[45]⟩ then true
  else if s = ⟨#[42]⟩ then true
  else if s = ⟨#[65, 78, 68]⟩ then true
  else if s = ⟨#[79, 82]⟩ then true
  else if s = ⟨#[88, 79, 82]⟩ then true
  else if s = ⟨#[76, 83, 72, 73, 70, 84]⟩ then true
  else if s = ⟨#[82, 83, 72, 73, 70, 84]⟩ then true
  else if s = ⟨#[77, 73, 78]⟩ then true
  else if s = ⟨#[77, 65, 88]⟩ then true
  else if s = ⟨#[61]⟩ then true
  else if s = ⟨#[60, 62]⟩ then true
  else if s = ⟨#[60]⟩ then true
  else if s = ⟨#[62]⟩ then true
  else if s = ⟨#[60, 61]⟩ then true
  else if s = ⟨#[62, 61]⟩ then true
  else if s = ⟨#[85, 60]⟩ then true
  else if s = ⟨#[85, 62]⟩ then true
  else false
def twoE (s : ByteArray) (b : Int) : Int := if s = ⟨#[47]⟩ then vE b else if s = ⟨#[77, 79, 68]⟩ then vE b else 0
theorem twoV_DIV (a b : Int) : twoV ⟨#[47]⟩ a b = vQ a b := rfl
theorem twoV_MOD (a b : Int) : twoV ⟨#[77, 79, 68]⟩ a b = vR a b := rfl
theorem twoV_ADD (a b : Int) : twoV ⟨#[43]⟩ a b = wrap64 (a + b) := rfl
theorem twoV_SUB (a b : Int) : twoV ⟨#[45]⟩ a b = wrap64 (a - b) := rfl
theorem twoV_MUL (a b : Int) : twoV ⟨#[42]⟩ a b = wrap64 (a * b) := rfl
theorem twoV_AND (a b : Int) : twoV ⟨#[65, 78, 68]⟩ a b = bits .and .i64 a b := rfl
theorem twoV_OR (a b : Int) : twoV ⟨#[79, 82]⟩ a b = bits .or .i64 a b := rfl
theorem twoV_XOR (a b : Int) : twoV ⟨#[88, 79, 82]⟩ a b = bits .xor .i64 a b := rfl
theorem twoV_SHL (a b : Int) : twoV ⟨#[76, 83, 72, 73, 70, 84]⟩ a b = vShl a b := rfl
theorem twoV_SHR (a b : Int) : twoV ⟨#[82, 83, 72, 73, 70, 84]⟩ a b = vShr a b := rfl
theorem twoV_MIN (a b : Int) : twoV ⟨#[77, 73, 78]⟩ a b = vMin a b := rfl
theorem twoV_MAX (a b : Int) : twoV ⟨#[77, 65, 88]⟩ a b = vMax a b := rfl
theorem twoV_EQ (a b : Int) : twoV ⟨#[61]⟩ a b = flg (decide (a = b)) := rfl
theorem twoV_NE (a b : Int) : twoV ⟨#[60, 62]⟩ a b = flg (decide (a ≠ b)) := rfl
theorem twoV_LT (a b : Int) : twoV ⟨#[60]⟩ a b = flg (decide (a < b)) := rfl
theorem twoV_GT (a b : Int) : twoV ⟨#[62]⟩ a b = flg (decide (b < a)) := rfl
theorem twoV_LE (a b : Int) : twoV ⟨#[60, 61]⟩ a b = flg (decide (a ≤ b)) := rfl
theorem twoV_GE (a b : Int) : twoV ⟨#[62, 61]⟩ a b = flg (decide (b ≤ a)) := rfl
theorem twoV_ULT (a b : Int) : twoV ⟨#[85, 60]⟩ a b = flg (decide (IntKind.u64.wrap a < IntKind.u64.wrap b)) := rfl
theorem twoV_UGT (a b : Int) : twoV ⟨#[85, 62]⟩ a b = flg (decide (IntKind.u64.wrap b < IntKind.u64.wrap a)) := rfl
theorem rdiv_any (a b : Int) (w : World) (ha : In64 a) (hb : In64 b) : Calls Try.prog 25 #[.int .i64 a, .int .i64 b] w fun e w' => e = .returned (.tuple #[.int .i64 (vQ a b), .int .i64 (vR a b), .int .i64 (vE b)]) ∧ w = w' := by
  by_cases h0 : b = 0
  · subst h0; exact rdiv_zero a w
  · have h := rdiv_some a b w ha hb h0
    have e : vE b = 0 := if_neg h0
    rw [e]; exact h
theorem div_any (a b : Int) (w : World) (ha : In64 a) (hb : In64 b) : Calls Try.prog 27 #[.int .i64 a, .int .i64 b] w fun e w' => e = .returned (.tuple #[.int .i64 (vQ a b), .int .i64 (vR a b), .int .i64 (vE b)]) ∧ ∃ n, w' = w.drewN n := by
  by_cases h0 : b = 0
  · subst h0; exact (div_zero a w).mono fun e w' h => ⟨h.1, 0, h.2.symm⟩
  · have h := div_some a b w ha hb h0
    have e : vE b = 0 := if_neg h0
    rw [e]; exact h
end Go.Proofs.Ythaoifccdheldaa
