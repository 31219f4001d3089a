/- The walk of AluTurns. -/
import Derived.Test.YthaoifccdheldaaShown
namespace Go.Proofs.Ythaoifccdheldaa
open Go.RowKit
set_option linter.unusedVariables false

theorem and7 (x : Int) : bits .and .i64 x 7 = x % 8 := by
  have e : bits .and .i64 x 7 = IntKind.i64.wrap ((BitVec.ofInt 64 x &&& BitVec.ofInt 64 7).toNat : Nat) := rfl
  have h3 := ofInt_toNat x
  have e6 : (BitVec.ofInt 64 7).toNat = 2 ^ 3 - 1 := by decide
  rw [e, BitVec.toNat_and, e6, Nat.and_two_pow_sub_one_eq_mod, wrapI64]
  generalize (BitVec.ofInt 64 x).toNat = n at *
  have e5 : (2 : Nat) ^ 3 = 8 := rfl
  rw [e5]
  have h : ((n % 8 : Nat) : Int) = x % 8 := by omega
  rw [h, wrap64_of ⟨by omega, by omega⟩]

/-- What the law says, plainly. -/
theorem turns_plain {a : Int} (h : In64 a) : In64 (wrap64 (-a)) ∧ wrap64 (-(wrap64 (-a))) = a ∧ In64 (vInv a) ∧ vInv (vInv a) = a ∧ wrap64 (a + wrap64 (-a)) = 0 ∧
    In64 (vAl a) ∧ bits .and .i64 (vAl a) 7 = 0 ∧ 0 ≤ wrap64 (vAl a - a) ∧ wrap64 (vAl a - a) < 8 ∧ In64 (wrap64 (a + 1)) ∧ wrap64 (wrap64 (a + 1) - 1) = a := by
  have hi : In64 (vInv a) := by rw [vInv_eq h]; obtain ⟨h1, h2⟩ := h; exact ⟨by omega, by omega⟩
  have hm := wrap64_mod ((a + 7) - (a + 7) % 8)
  rw [and7, vInv_eq hi, vInv_eq h, vAl_eq]
  refine ⟨wrap64_range _, ?_, ?_, ?_, ?_, wrap64_range _, ?_, ?_, ?_, wrap64_range _, ?_⟩
  · obtain ⟨h1, h2⟩ := h; unfold wrap64; omega
  · obtain ⟨h1, h2⟩ := h; exact ⟨by omega, by omega⟩
  · omega
  · obtain ⟨h1, h2⟩ := h; unfold wrap64; omega
  · omega
  · generalize wrap64 ((a + 7) - (a + 7) % 8) = y at *; have h5 : y - a - (a + 7) + (a + 7) % 8 + a = y - ((a + 7) - (a + 7) % 8) := by omega
    have h6 : wrap64 (y - a) = wrap64 (7 - (a + 7) % 8) := wrap64_congr (by omega)
    rw [h6, wrap64_of ⟨by omega, by omega⟩]; omega
  · generalize wrap64 ((a + 7) - (a + 7) % 8) = y at *
    have h6 : wrap64 (y - a) = wrap64 (7 - (a + 7) % 8) := wrap64_congr (by omega)
    rw [h6, wrap64_of ⟨by omega, by omega⟩]; omega
  · obtain ⟨h1, h2⟩ := h; unfold wrap64; omega
theorem half_twice {a : Int} (h1 : a < 4611686018427387904) (h2 : -4611686018427387904 ≤ a) : In64 (wrap64 (a * 2)) ∧ wrap64 (a * 2) / 2 = a := by
  refine ⟨wrap64_range _, ?_⟩; rw [wrap64_of ⟨by omega, by omega⟩]; omega

set_option maxHeartbeats 1600000 in
theorem aluTurns_up (a : Int) (h : In64 a) (hc : 4611686018427387904 ≤ a) (w : World) : Calls Try.prog 5 #[.int .i64 a] w (Yes w) := by
  obtain ⟨rn, en, ri, ei, ez, rx, ex, d0, d8, rp, ep⟩ := turns_plain h
  have h0 := Lib.hid (shown_all)
  have hx := Lib.hid (wone (fun w => one_ALN a w h))
  have hd1 := Lib.hid (wtwo (fun w => two_SUB (vAl a) a w rx h))
  have hn := Lib.hid (wone (fun w => one_NEG a w h))
  have hn2 := Lib.hid (wone (one_turn (fun w => one_NEG _ w rn) en rfl))
  have hi := Lib.hid (wone (fun w => one_INV a w h))
  have hi2 := Lib.hid (wone (one_turn (fun w => one_INV _ w ri) ei rfl))
  have hz := Lib.hid (wtwo (two_turn (fun w => two_ADD a _ w h rn) ez rfl rfl))
  have ha := Lib.hid (wtwo (two_turn (fun w => two_AND _ 7 w rx ⟨by decide, by decide⟩) ex rfl rfl))
  have hp := Lib.hid (wone (fun w => one_INC a w h))
  have hp2 := Lib.hid (wone (one_turn (fun w => one_DEC _ w rp) ep rfl))
  clear h rn en ri ei ez rx ex rp ep
  generalize wrap64 (vAl a - a) = d at *
  generalize vAl a = x at *
  generalize wrap64 (-a) = n at *
  generalize vInv a = i at *
  generalize wrap64 (a + 1) = p at *
  go_enter Try.func5, Try.ntmps5
  go_wp2_with fail
  refine (h0.out _).mono ?_
  rintro e w' ⟨rfl, rfl⟩
  go_wp2_with fail
  refine (hx.out _).mono ?_
  rintro e w' ⟨rfl, rfl⟩
  go_wp2_with fail
  refine (hd1.out _).mono ?_
  rintro e w' ⟨rfl, rfl⟩
  go_wp2_with fail
  refine (hn.out _).mono ?_
  rintro e w' ⟨rfl, rfl⟩
  go_wp2_with fail
  refine (hn2.out _).mono ?_
  rintro e w' ⟨rfl, rfl⟩
  go_wp2_with fail
  refine (hi.out _).mono ?_
  rintro e w' ⟨rfl, rfl⟩
  go_wp2_with fail
  refine (hi2.out _).mono ?_
  rintro e w' ⟨rfl, rfl⟩
  go_wp2_with fail
  refine (hn.out _).mono ?_
  rintro e w' ⟨rfl, rfl⟩
  go_wp2_with fail
  refine (hz.out _).mono ?_
  rintro e w' ⟨rfl, rfl⟩
  go_wp2_with fail
  refine (ha.out _).mono ?_
  rintro e w' ⟨rfl, rfl⟩
  go_wp2_with fail
  refine (hp.out _).mono ?_
  rintro e w' ⟨rfl, rfl⟩
  go_wp2_with fail
  refine (hp2.out _).mono ?_
  rintro e w' ⟨rfl, rfl⟩
  go_wp2
  go_ret
  exact ⟨rfl, Below.refl _ _⟩

set_option maxHeartbeats 1600000 in
theorem aluTurns_down (a : Int) (h : In64 a) (hc : a < -4611686018427387904) (w : World) : Calls Try.prog 5 #[.int .i64 a] w (Yes w) := by
  obtain ⟨rn, en, ri, ei, ez, rx, ex, d0, d8, rp, ep⟩ := turns_plain h
  have h0 := Lib.hid (shown_all)
  have hx := Lib.hid (wone (fun w => one_ALN a w h))
  have hd1 := Lib.hid (wtwo (fun w => two_SUB (vAl a) a w rx h))
  have hn := Lib.hid (wone (fun w => one_NEG a w h))
  have hn2 := Lib.hid (wone (one_turn (fun w => one_NEG _ w rn) en rfl))
  have hi := Lib.hid (wone (fun w => one_INV a w h))
  have hi2 := Lib.hid (wone (one_turn (fun w => one_INV _ w ri) ei rfl))
  have hz := Lib.hid (wtwo (two_turn (fun w => two_ADD a _ w h rn) ez rfl rfl))
  have ha := Lib.hid (wtwo (two_turn (fun w => two_AND _ 7 w rx ⟨by decide, by decide⟩) ex rfl rfl))
  have hp := Lib.hid (wone (fun w => one_INC a w h))
  have hp2 := Lib.hid (wone (one_turn (fun w => one_DEC _ w rp) ep rfl))
  clear h rn en ri ei ez rx ex rp ep
  generalize wrap64 (vAl a - a) = d at *
  generalize vAl a = x at *
  generalize wrap64 (-a) = n at *
  generalize vInv a = i at *
  generalize wrap64 (a + 1) = p at *
  go_enter Try.func5, Try.ntmps5
  go_wp2_with fail
  refine (h0.out _).mono ?_
  rintro e w' ⟨rfl, rfl⟩
  go_wp2_with fail
  refine (hx.out _).mono ?_
  rintro e w' ⟨rfl, rfl⟩
  go_wp2_with fail
  refine (hd1.out _).mono ?_
  rintro e w' ⟨rfl, rfl⟩
  go_wp2_with fail
  refine (hn.out _).mono ?_
  rintro e w' ⟨rfl, rfl⟩
  go_wp2_with fail
  refine (hn2.out _).mono ?_
  rintro e w' ⟨rfl, rfl⟩
  go_wp2_with fail
  refine (hi.out _).mono ?_
  rintro e w' ⟨rfl, rfl⟩
  go_wp2_with fail
  refine (hi2.out _).mono ?_
  rintro e w' ⟨rfl, rfl⟩
  go_wp2_with fail
  refine (hn.out _).mono ?_
  rintro e w' ⟨rfl, rfl⟩
  go_wp2_with fail
  refine (hz.out _).mono ?_
  rintro e w' ⟨rfl, rfl⟩
  go_wp2_with fail
  refine (ha.out _).mono ?_
  rintro e w' ⟨rfl, rfl⟩
  go_wp2_with fail
  refine (hp.out _).mono ?_
  rintro e w' ⟨rfl, rfl⟩
  go_wp2_with fail
  refine (hp2.out _).mono ?_
  rintro e w' ⟨rfl, rfl⟩
  go_wp2
  go_ret
  exact ⟨rfl, Below.refl _ _⟩

set_option maxHeartbeats 1600000 in
theorem aluTurns_mid (a : Int) (h : In64 a) (hc : a < 4611686018427387904) (hd : -4611686018427387904 ≤ a) (w : World) : Calls Try.prog 5 #[.int .i64 a] w (Yes w) := by
  obtain ⟨rn, en, ri, ei, ez, rx, ex, d0, d8, rp, ep⟩ := turns_plain h
  obtain ⟨rt, et⟩ := half_twice hc hd
  have h0 := Lib.hid (shown_all)
  have hx := Lib.hid (wone (fun w => one_ALN a w h))
  have hd1 := Lib.hid (wtwo (fun w => two_SUB (vAl a) a w rx h))
  have hn := Lib.hid (wone (fun w => one_NEG a w h))
  have hn2 := Lib.hid (wone (one_turn (fun w => one_NEG _ w rn) en rfl))
  have hi := Lib.hid (wone (fun w => one_INV a w h))
  have hi2 := Lib.hid (wone (one_turn (fun w => one_INV _ w ri) ei rfl))
  have hz := Lib.hid (wtwo (two_turn (fun w => two_ADD a _ w h rn) ez rfl rfl))
  have ht := Lib.hid (wone (fun w => one_DBL a w h))
  have ht2 := Lib.hid (wone (one_turn (fun w => one_HLF _ w rt) et rfl))
  have ha := Lib.hid (wtwo (two_turn (fun w => two_AND _ 7 w rx ⟨by decide, by decide⟩) ex rfl rfl))
  have hp := Lib.hid (wone (fun w => one_INC a w h))
  have hp2 := Lib.hid (wone (one_turn (fun w => one_DEC _ w rp) ep rfl))
  clear h rn en ri ei ez rx ex rp ep rt et
  generalize wrap64 (vAl a - a) = d at *
  generalize vAl a = x at *
  generalize wrap64 (-a) = n at *
  generalize vInv a = i at *
  generalize wrap64 (a + 1) = p at *
  generalize wrap64 (a * 2) = t at *
  go_enter Try.func5, Try.ntmps5
  go_wp2_with fail
  refine (h0.out _).mono ?_
  rintro e w' ⟨rfl, rfl⟩
  go_wp2_with fail
  refine (hx.out _).mono ?_
  rintro e w' ⟨rfl, rfl⟩
  go_wp2_with fail
  refine (hd1.out _).mono ?_
  rintro e w' ⟨rfl, rfl⟩
  go_wp2_with fail
  refine (hn.out _).mono ?_
  rintro e w' ⟨rfl, rfl⟩
  go_wp2_with fail
  refine (hn2.out _).mono ?_
  rintro e w' ⟨rfl, rfl⟩
  go_wp2_with fail
  refine (hi.out _).mono ?_
  rintro e w' ⟨rfl, rfl⟩
  go_wp2_with fail
  refine (hi2.out _).mono ?_
  rintro e w' ⟨rfl, rfl⟩
  go_wp2_with fail
  refine (hn.out _).mono ?_
  rintro e w' ⟨rfl, rfl⟩
  go_wp2_with fail
  refine (hz.out _).mono ?_
  rintro e w' ⟨rfl, rfl⟩
  go_wp2_with fail
  refine (ht.out _).mono ?_
  rintro e w' ⟨rfl, rfl⟩
  go_wp2_with fail
  refine (ht2.out _).mono ?_
  rintro e w' ⟨rfl, rfl⟩
  go_wp2_with fail
  refine (ha.out _).mono ?_
  rintro e w' ⟨rfl, rfl⟩
  go_wp2_with fail
  refine (hp.out _).mono ?_
  rintro e w' ⟨rfl, rfl⟩
  go_wp2_with fail
  refine (hp2.out _).mono ?_
  rintro e w' ⟨rfl, rfl⟩
  go_wp2
  go_ret
  exact ⟨rfl, Below.refl _ _⟩

theorem aluTurns_walk (a : Int) (h : (Lit.int .i64 a).wf = true) (w : World) : Calls Try.prog 5 #[.int .i64 a] w (Yes w) := by
  by_cases hc : 4611686018427387904 ≤ a
  · exact aluTurns_up a (in64_wf h) hc w
  · by_cases hd : a < -4611686018427387904
    · exact aluTurns_down a (in64_wf h) hd w
    · exact aluTurns_mid a (in64_wf h) (by omega) (by omega) w
end Go.Proofs.Ythaoifccdheldaa
