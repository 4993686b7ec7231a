/-
  The contracts of the numbers with a sign.
-/
import Derived.Test.YtceidhjgdgnplaaDoorRref
namespace Go.Proofs.YtceidhjgdgnplaaDoor
set_option linter.unusedVariables false
set_option linter.unusedSimpArgs false
open Go.RowKit

/-- The number that a number with a sign is written as. -/
def zig (v : Int) : Nat := if 0 ≤ v then (2 * v).toNat else (-2 * v - 1).toNat

theorem zig_lt (v : Int) (h1 : -9223372036854775808 ≤ v) (h2 : v ≤ 9223372036854775807) : zig v < 18446744073709551616 := by
  unfold zig; split <;> omega

theorem xor_ones (x : Nat) (h : x < 18446744073709551616) : x ^^^ 18446744073709551615 = 18446744073709551615 - x := by
  have h1 : (BitVec.ofNat 64 x ^^^ BitVec.allOnes 64).toNat = x ^^^ 18446744073709551615 := by
    rw [BitVec.toNat_xor, BitVec.toNat_ofNat, BitVec.toNat_allOnes, Nat.mod_eq_of_lt (by omega)]
  rw [← h1, BitVec.xor_allOnes, BitVec.toNat_not, BitVec.toNat_ofNat, Nat.mod_eq_of_lt (by omega)]

theorem zig_xor (v : Int) (h1 : -9223372036854775808 ≤ v) (h2 : v ≤ 9223372036854775807) :
    bits BinOp.xor IntKind.u64 (IntKind.u64.wrap (wrap64 (v * 2))) (IntKind.u64.wrap (v / 9223372036854775808)) = ((zig v : Nat) : Int) := by
  have e1 : IntKind.u64.wrap (wrap64 (v * 2)) = (((v * 2) % 18446744073709551616).toNat : Int) := by
    rw [IntKind.wrap_u64]
    unfold wrap64
    omega
  rw [e1]
  by_cases h0 : 0 ≤ v
  · have e2 : IntKind.u64.wrap (v / 9223372036854775808) = ((0 : Nat) : Int) := by rw [IntKind.wrap_u64]; omega
    rw [e2, u64_xor_nat _ _ (by omega) (by decide), Nat.xor_zero]
    unfold zig; rw [if_pos h0]; omega
  · have e2 : IntKind.u64.wrap (v / 9223372036854775808) = ((18446744073709551615 : Nat) : Int) := by rw [IntKind.wrap_u64]; omega
    rw [e2, u64_xor_nat _ _ (by omega) (by decide), xor_ones _ (by omega)]
    unfold zig; rw [if_neg h0]; omega

set_option maxRecDepth 100000 in
set_option maxHeartbeats 1000000 in
theorem int_any (v : Int) (h1 : -9223372036854775808 ≤ v) (h2 : v ≤ 9223372036854775807) (w : World) :
    Calls Tryd.prog 37 #[.int .i64 v] w fun e w' => e = .returned (.string (bstr (uintB (zig v)))) ∧ Frm [] w w' := by
  have hz := zig_lt v h1 h2
  have Hz := hide hz
  clear hz
  go_enter Tryd.func37, Tryd.ntmps37
  go_wp2_with fail
  refine (uint_any (zig v) _ (zig_xor v h1 h2) Hz.out _).mono ?_
  rintro e w1 ⟨rfl, hf⟩
  go_wp2_with fail
  go_ret
  exact ⟨rfl, hf⟩

set_option maxRecDepth 100000 in
set_option maxHeartbeats 1000000 in
theorem rint_any (v : Int) (h1 : -9223372036854775808 ≤ v) (h2 : v ≤ 9223372036854775807) (w : World) :
    Calls Tryd.prog 38 #[.int .i64 v] w fun e w' => e = .returned (.string (bstr (uintB (zig v)))) ∧ Frm [] w w' := by
  have hz := zig_lt v h1 h2
  have Hz := hide hz
  clear hz
  by_cases h0 : 0 ≤ v
  · go_enter Tryd.func38, Tryd.ntmps38
    go_wp2_with fail
    refine (ruint_any (zig v) _ (by unfold zig; rw [if_pos h0]; omega) Hz.out _).mono ?_
    rintro e w1 ⟨rfl, hf⟩
    go_wp2_with fail
    go_ret
    exact ⟨rfl, hf⟩
  · have h0' : v < 0 := by omega
    go_enter Tryd.func38, Tryd.ntmps38
    go_wp2_with fail
    refine (ruint_any (zig v) _ (by unfold zig; split <;> omega) Hz.out _).mono ?_
    rintro e w1 ⟨rfl, hf⟩
    go_wp2_with fail
    go_ret
    exact ⟨rfl, hf⟩

theorem span_le (k : Nat) (r : List Nat) : spanN k r ≤ k := by
  induction k generalizing r with
  | zero => simp [spanN]
  | succ k ih =>
    cases r with
    | nil => simp [spanN]
    | cons b r =>
      have := ih r
      simp only [spanN]
      split <;> omega

theorem readU_lt (l : List Nat) (a : Int) : (readU l a).1 < 18446744073709551616 := by
  by_cases h : a < 0 ∨ (l.length : Int) ≤ a
  · rw [readU_out l a h]; decide
  · obtain ⟨n, rfl⟩ : ∃ n : Nat, a = (n : Int) := ⟨a.toNat, by omega⟩
    have hJ := span_le 9 (l.drop n)
    rw [readU_span l n _ (by omega) rfl]
    generalize spanN 9 (l.drop n) = J at hJ
    by_cases h1 : l.length ≤ n + J
    · rw [if_pos h1]; decide
    · rw [if_neg h1]
      by_cases h2 : J = 9 ∧ 1 < l.getD (n + J) 0 ∨ 0 < J ∧ l.getD (n + J) 0 = 0
      · rw [if_pos h2]; decide
      · rw [if_neg h2]
        refine tailD_lim (l.drop n) J (by rw [List.length_drop]; omega) ?_
        rw [getD_dropN]
        omega

/-- The number with a sign that a number stands for. -/
def unzig (v : Nat) : Int := if v % 2 = 1 then -((v / 2 : Nat) : Int) - 1 else ((v / 2 : Nat) : Int)
/-- What ReadInt tells. -/
def tellI (r : Nat × Nat × Nat) : Value := if r.2.2 = 0 then .tuple #[.int .i64 (unzig r.1), .int .i64 (r.2.1 : Int), .int .i64 0] else .tuple #[.int .i64 0, .int .i64 0, .int .i64 (r.2.2 : Int)]

theorem i64_xor_zero (x : Nat) (h : x < 9223372036854775808) : bits BinOp.xor IntKind.i64 (x : Int) 0 = (x : Int) := by
  show IntKind.i64.wrap ((BitVec.ofInt 64 (x : Int) ^^^ BitVec.ofInt 64 0).toNat : Int) = _
  rw [BitVec.ofInt_natCast, show BitVec.ofInt 64 0 = 0#64 from rfl, BitVec.xor_zero, BitVec.toNat_ofNat, Nat.mod_eq_of_lt (by omega), IntKind.wrap_i64]
  omega
theorem i64_xor_ones (x : Nat) (h : x < 9223372036854775808) : bits BinOp.xor IntKind.i64 (x : Int) (-1) = -(x : Int) - 1 := by
  show IntKind.i64.wrap ((BitVec.ofInt 64 (x : Int) ^^^ BitVec.ofInt 64 (-1)).toNat : Int) = _
  rw [BitVec.ofInt_natCast, show BitVec.ofInt 64 (-1) = BitVec.allOnes 64 from rfl, BitVec.xor_allOnes, BitVec.toNat_not, BitVec.toNat_ofNat, Nat.mod_eq_of_lt (by omega), IntKind.wrap_i64]
  omega

theorem unzig_xor (v : Nat) (h : v < 18446744073709551616) : bits BinOp.xor IntKind.i64 ((v : Int) / 2) (wrap64 (-wrap64 (bits BinOp.and IntKind.u64 (v : Int) 1))) = unzig v := by
  rw [show ((1 : Int)) = ((1 : Nat) : Int) from rfl, u64_and_nat v 1 h (by decide), nat_mask1]
  have e1 : ((v : Int) / 2) = ((v / 2 : Nat) : Int) := by omega
  rw [e1]
  unfold unzig
  rcases Nat.mod_two_eq_zero_or_one v with h2 | h2
  · rw [h2, show wrap64 (-wrap64 ((0 : Nat) : Int)) = 0 by unfold wrap64; omega, i64_xor_zero _ (by omega)]; rfl
  · rw [h2, show wrap64 (-wrap64 ((1 : Nat) : Int)) = -1 by unfold wrap64; omega, i64_xor_ones _ (by omega)]; rfl

theorem ret3i {x y : Int} {v n : Int} (hx : x = v) (hy : y = n) : Ending.returned (.tuple #[.int .i64 x, .int .i64 y, .int .i64 0]) = .returned (.tuple #[.int .i64 v, .int .i64 n, .int .i64 0]) := by
  subst hx hy; rfl

set_option maxRecDepth 100000 in
set_option maxHeartbeats 1000000 in
theorem readint_any (s : ByteArray) (a : Int) (hs : s.size ≤ 140737488355328) (w : World) :
    Calls Tryd.prog 35 #[.string s, .int .i64 a] w fun e w' => e = .returned (tellI (readU (bl s) a)) ∧ w = w' := by
  have hlt := readU_lt (bl s) a
  have hc := readuint_any s a hs w
  generalize readU (bl s) a = r at hlt hc ⊢
  obtain ⟨v, n, er⟩ := r
  have Hc := hide hc
  clear hc
  simp only at hlt
  by_cases he : er = 0
  · subst he
    go_enter Tryd.func35, Tryd.ntmps35
    go_wp2_with fail
    refine (Hc.out).mono ?_
    rintro e w' ⟨rfl, rfl⟩
    simp only [tellU]
    go_wp2_with fail
    go_ret3
    exact ⟨ret3i (unzig_xor v hlt) rfl, rfl⟩
  · have hne : ((er : Int) != 0) = true := by rw [bne_iff_ne]; omega
    have ht : tellI (v, n, er) = .tuple #[.int .i64 0, .int .i64 0, .int .i64 (er : Int)] := by simp [tellI, he]
    rw [ht]
    clear ht he
    go_enter Tryd.func35, Tryd.ntmps35
    go_wp2_with fail
    refine (Hc.out).mono ?_
    rintro e w' ⟨rfl, rfl⟩
    simp only [tellU]
    go_wp2_with fail
    go_ret3
    exact ⟨rfl, rfl⟩

set_option maxRecDepth 100000 in
set_option maxHeartbeats 1000000 in
theorem rreadint_any (s : ByteArray) (a : Int) (hs : s.size ≤ 140737488355328) (w : World) :
    Calls Tryd.prog 36 #[.string s, .int .i64 a] w fun e w' => e = .returned (tellI (readU (bl s) a)) ∧ w = w' := by
  have hlt := readU_lt (bl s) a
  have hc := rreaduint_any s a hs w
  generalize readU (bl s) a = r at hlt hc ⊢
  obtain ⟨v, n, er⟩ := r
  have Hc := hide hc
  clear hc
  simp only at hlt
  by_cases he : er = 0
  · subst he
    go_enter Tryd.func36, Tryd.ntmps36
    go_wp2_with fail
    refine (Hc.out).mono ?_
    rintro e w' ⟨rfl, rfl⟩
    simp only [tellU]
    by_cases hodd : v % 2 = 1
    · have hb : ((v : Int) % 2 == 1) = true := by rw [beq_iff_eq]; omega
      have hz : unzig v = -((v / 2 : Nat) : Int) - 1 := by unfold unzig; rw [if_pos hodd]
      have Hz := hide hz
      clear hz hodd
      go_wp2_with fail
      go_ret3
      exact ⟨ret3i (by rw [Hz.out]; first | omega | (unfold wrap64; omega)) rfl, rfl⟩
    · have hb : ((v : Int) % 2 == 1) = false := by rw [beq_eq_false_iff_ne]; omega
      have hz : unzig v = ((v / 2 : Nat) : Int) := by unfold unzig; rw [if_neg hodd]
      have Hz := hide hz
      clear hz hodd
      go_wp2_with fail
      go_ret3
      exact ⟨ret3i (by rw [Hz.out]; first | omega | (unfold wrap64; omega)) rfl, rfl⟩
  · have hne : ((er : Int) != 0) = true := by rw [bne_iff_ne]; omega
    have ht : tellI (v, n, er) = .tuple #[.int .i64 0, .int .i64 0, .int .i64 (er : Int)] := by simp [tellI, he]
    rw [ht]
    clear ht he
    go_enter Tryd.func36, Tryd.ntmps36
    go_wp2_with fail
    refine (Hc.out).mono ?_
    rintro e w' ⟨rfl, rfl⟩
    simp only [tellU]
    go_wp2_with fail
    go_ret3
    exact ⟨rfl, rfl⟩

end Go.Proofs.YtceidhjgdgnplaaDoor
