/-
  The contract of enc.ReadUint: the number, the place behind it, the error.
-/
import Derived.Test.YtdnllmibchmnnaaDoorUint
namespace Go.Proofs.YtdnllmibchmnnaaDoor
set_option linter.unusedVariables false
set_option linter.unusedSimpArgs false
open Go.RowKit

/-- What ReadUint tells. -/
def tellU (r : Nat × Nat × Nat) : Value := .tuple #[.int .u64 (r.1 : Int), .int .i64 (r.2.1 : Int), .int .i64 (r.2.2 : Int)]

theorem readU_out (l : List Nat) (a : Int) (h : a < 0 ∨ (l.length : Int) ≤ a) : readU l a = (0, 0, 20) := by simp [readU, h]

theorem readU_in (l : List Nat) (a : Nat) (h : a < l.length) : readU l (a : Int) = match rdN 10 (l.drop a) 0 0 with
    | (v, c, 0) => (v, a + c, 0)
    | (_, _, e + 1) => (0, 0, e + 1) := by
  have : ¬ ((a : Int) < 0 ∨ (l.length : Int) ≤ (a : Int)) := by omega
  simp only [readU, if_neg this, Int.toNat_natCast]
  rfl

set_option maxRecDepth 100000 in
set_option maxHeartbeats 1000000 in
theorem readuint_out (s : ByteArray) (a : Int) (hs : s.size ≤ 4611686018427387904) (ha : a < 0 ∨ (s.size : Int) ≤ a) (w : World) :
    Calls Tryd.prog 53 #[.string s, .int .i64 a] w fun e w' => e = .returned (tellU (readU (bl s) a)) ∧ w = w' := by
  rw [readU_out _ _ (by rw [bl_length]; exact ha)]
  by_cases h0 : a < 0
  · go_enter Tryd.func53, Tryd.ntmps53
    go_wp2
    go_ret3
    exact ⟨rfl, rfl⟩
  · have h1 : (s.size : Int) ≤ a := by omega
    go_enter Tryd.func53, Tryd.ntmps53
    go_wp2
    go_ret3
    exact ⟨rfl, rfl⟩

theorem or_digit (v b i : Nat) (hb : b < 256) (hv : v < 128 ^ i) (hi : i ≤ 9) (h9 : i ≤ 8 ∨ b ≤ 1) :
    bits BinOp.or IntKind.u64 (v : Int) (IntKind.u64.wrap (IntKind.u64.wrap (bits BinOp.and IntKind.u8 (b : Int) 127) * 2 ^ (7 * i))) = ((v + b % 128 * 128 ^ i : Nat) : Int) := by
  have hp : (128 : Nat) ^ i = 2 ^ (7 * i) := by rw [Nat.pow_mul]
  have hlim : b % 128 * 128 ^ i < 18446744073709551616 ∧ 128 ^ i ≤ 9223372036854775808 := by
    rcases h9 with h | h
    · have h1 : (128 : Nat) ^ i ≤ 128 ^ 8 := Nat.pow_le_pow_right (by decide) h
      have h2 : (128 : Nat) ^ 8 = 72057594037927936 := by decide
      have h3 : b % 128 ≤ 127 := by omega
      have h4 : b % 128 * 128 ^ i ≤ 127 * 72057594037927936 := Nat.mul_le_mul h3 (by omega)
      omega
    · have h1 : (128 : Nat) ^ i ≤ 128 ^ 9 := Nat.pow_le_pow_right (by decide) hi
      have h2 : (128 : Nat) ^ 9 = 9223372036854775808 := by decide
      have h3 : b % 128 ≤ 1 := by omega
      have h4 : b % 128 * 128 ^ i ≤ 1 * 9223372036854775808 := Nat.mul_le_mul h3 (by omega)
      omega
  have ha : bits BinOp.and IntKind.u8 (b : Int) 127 = ((b % 128 : Nat) : Int) := by
    rw [show (127 : Int) = ((127 : Nat) : Int) from rfl, u8_and_nat b 127 hb (by decide), nat_mask7]
  have hw1 : IntKind.u64.wrap ((b % 128 : Nat) : Int) = ((b % 128 : Nat) : Int) := by rw [IntKind.wrap_u64]; omega
  have hm : ((b % 128 : Nat) : Int) * 2 ^ (7 * i) = ((b % 128 * 128 ^ i : Nat) : Int) := by rw [hp]; simp
  rw [ha, hw1, hm]
  have hw2 : IntKind.u64.wrap ((b % 128 * 128 ^ i : Nat) : Int) = ((b % 128 * 128 ^ i : Nat) : Int) := by
    rw [IntKind.wrap_u64]; omega
  rw [hw2, u64_or_nat v _ (by omega) hlim.1, Nat.or_comm, nat_join (7 * i) _ _ (by rw [hp]; exact Nat.mul_mod_left _ _) (by rw [← hp]; exact hv), Nat.add_comm]

theorem digit_lt {v i : Nat} (b : Nat) (hv : v < 128 ^ i) : v + b % 128 * 128 ^ i < 128 ^ (i + 1) := by
  have h1 : b % 128 ≤ 127 := by omega
  have h2 : b % 128 * 128 ^ i ≤ 127 * 128 ^ i := Nat.mul_le_mul_right _ h1
  rw [Nat.pow_succ]; omega

theorem ret3 {x y : Int} {v n : Nat} (hx : x = (v : Int)) (hy : y = (n : Int)) : Ending.returned (.tuple #[.int .u64 x, .int .i64 y, .int .i64 0]) = .returned (tellU (v, n, 0)) := by
  subst hx hy; rfl

set_option maxRecDepth 100000 in
set_option maxHeartbeats 4000000 in
theorem readuint_in (s : ByteArray) (a : Nat) (hs : s.size ≤ 4611686018427387904) (ha : a < s.size) (w : World) :
    Calls Tryd.prog 53 #[.string s, .int .i64 (a : Int)] w fun e w' => e = .returned (tellU (readU (bl s) a)) ∧ w = w' := by
  have hin := readU_in (bl s) a (by rw [bl_length]; exact ha)
  have hbl := bl_length s
  have Hin := hide hin
  have Hbl := hide hbl
  have hd1 : decide ((a : Int) < 0) = false := by simp
  have hd2 : decide ((s.size : Int) ≤ (a : Int)) = false := by simp; omega
  clear hin hbl
  go_enter Tryd.func53, Tryd.ntmps53
  go_wp2
  go_loop [7, 18] (fun x y => ∃ i v : Nat, i ≤ 9 ∧ a + i ≤ s.size ∧ y = .int .i64 (i : Int) ∧ x = .int .u64 (v : Int) ∧ v < 128 ^ i ∧ rdN (9 - i + 1) ((bl s).drop (a + i)) i v = rdN 10 ((bl s).drop a) 0 0)
    (fun _ y => 10 - (intOf y).toNat)
  case atStart => exact ⟨0, 0, by omega, by omega, rfl, rfl, by simp, rfl⟩
  case round =>
    obtain ⟨i, v, hi, hai, rfl, rfl, hv, hrd⟩ := hrel
    have Hv := hide hv
    have Hrd := hide hrd
    clear hv hrd
    by_cases hend : a + i = s.size
    · have hse : ((a : Int) + (i : Int) == (s.size : Int)) = true := by rw [beq_iff_eq]; omega
      have hle : s.size ≤ a + i := by omega
      have hd : (bl s).drop (a + i) = [] := List.drop_eq_nil_of_le (by rw [Hbl.out]; exact hle)
      have hf := Hrd.out
      rw [hd] at hf
      have hfin : readU (bl s) (a : Int) = (0, 0, 20) := by rw [Hin.out, ← hf]; rfl
      have Hfin := hide hfin
      clear hend hd hf hfin
      go_wp2
      go_ret3
      rw [Hfin.out]
      exact ⟨rfl, rfl⟩
    · have hlt : a + i < s.size := by omega
      have hse : ((a : Int) + (i : Int) == (s.size : Int)) = false := by rw [beq_eq_false_iff_ne]; omega
      clear hend
      obtain ⟨b, hb⟩ : ∃ b, b = (bl s).getD (a + i) 0 := ⟨_, rfl⟩
      have hidx := idx_str Tryd.underlying9 s (a + i) ((a : Int) + (i : Int)) (by omega) hlt b hb
      have hd : (bl s).drop (a + i) = b :: (bl s).drop (a + (i + 1)) := by
        have hl : a + i < (bl s).length := by rw [Hbl.out]; exact hlt
        rw [List.drop_eq_getElem_cons hl, hb, List.getD_eq_getElem?_getD, List.getElem?_eq_getElem hl, Option.getD_some]
        rfl
      have hb256 : b < 256 := by
        have hl : a + i < (bl s).length := by rw [Hbl.out]; exact hlt
        rw [hb, List.getD_eq_getElem?_getD, List.getElem?_eq_getElem hl]
        exact bl_lt s _ (List.getElem_mem hl)
      have hf := Hrd.out
      rw [hd, rdN] at hf
      have Hf := hide hf
      clear hb hd hf
      by_cases hA : 9 ≤ i ∧ 2 ≤ b
      · obtain ⟨hA1, hA2⟩ := hA
        have hf := Hf.out
        rw [if_pos (by omega)] at hf
        have hfin : readU (bl s) (a : Int) = (0, 0, 21) := by rw [Hin.out, ← hf]
        have Hfin := hide hfin
        clear hf hfin
        go_wp2
        go_ret3
        rw [Hfin.out]
        exact ⟨rfl, rfl⟩
      · by_cases hB : 1 ≤ i ∧ b = 0
        · obtain ⟨hB1, hB2⟩ := hB
          have hb0 : ((b : Int) == 0) = true := by rw [beq_iff_eq]; omega
          have hble : b ≤ 0 := by omega
          have hf := Hf.out
          rw [if_pos (by omega)] at hf
          have hfin : readU (bl s) (a : Int) = (0, 0, 21) := by rw [Hin.out, ← hf]
          have Hfin := hide hfin
          clear hf hfin hB2 hA
          go_wp2
          all_goals
            go_ret3
            rw [Hfin.out]
            exact ⟨rfl, rfl⟩
        · have hcond : ¬ (i = 9 ∧ 1 < b ∨ 0 < i ∧ b = 0) := by omega
          have hf := Hf.out
          rw [if_neg hcond] at hf
          have hAi : i ≤ 8 ∨ b ≤ 1 := by omega
          by_cases h128 : b < 128
          · rw [if_pos h128] at hf
            have hfin : readU (bl s) (a : Int) = (v + b * 128 ^ i, a + (i + 1), 0) := by rw [Hin.out, ← hf]
            have Hfin := hide hfin
            clear hf hfin hcond hA
            by_cases hi0 : i = 0
            · have hi1 : i ≤ 0 := by omega
              have hn9 : ((i : Int) == 9) = false := by rw [beq_eq_false_iff_ne]; omega
              clear hB hi0
              go_wp2
              go_ret3
              rw [Hfin.out]
              exact ⟨ret3 (by rw [or_digit v b i hb256 Hv.out hi hAi, Nat.mod_eq_of_lt h128]) (by omega), rfl⟩
            · have hb0 : ((b : Int) == 0) = false := by rw [beq_eq_false_iff_ne]; omega
              have hb1 : 1 ≤ b := by omega
              have hi1 : 1 ≤ i := by omega
              clear hB hi0
              by_cases hi9 : i = 9
              · have hi8 : 9 ≤ i := by omega
                have hn9 : ((i : Int) == 9) = true := by rw [beq_iff_eq]; omega
                have hbe : b ≤ 1 := by omega
                clear hi9
                go_wp2
                go_ret3
                rw [Hfin.out]
                exact ⟨ret3 (by rw [or_digit v b i hb256 Hv.out hi hAi, Nat.mod_eq_of_lt h128]) (by omega), rfl⟩
              · have hi8 : i ≤ 8 := by omega
                have hn9 : ((i : Int) == 9) = false := by rw [beq_eq_false_iff_ne]; omega
                clear hi9
                go_wp2
                go_ret3
                rw [Hfin.out]
                exact ⟨ret3 (by rw [or_digit v b i hb256 Hv.out hi hAi, Nat.mod_eq_of_lt h128]) (by omega), rfl⟩
          · rw [if_neg h128] at hf
            have hi8 : i ≤ 8 := by omega
            have hn9 : ((i : Int) == 9) = false := by rw [beq_eq_false_iff_ne]; omega
            have hb0 : ((b : Int) == 0) = false := by rw [beq_eq_false_iff_ne]; omega
            have Hf2 := hide hf
            clear hf hcond hA hB hAi
            by_cases hi0 : i = 0
            · have hi1 : i ≤ 0 := by omega
              clear hi0
              go_wp2
              refine ⟨⟨_, _, _, _, _, _, _, ⟨i + 1, by omega, by omega, ?qa0, v + b % 128 * 128 ^ i, ?qb0, digit_lt b Hv.out, ?qd0⟩, rfl, rfl, rfl, rfl, rfl, rfl, rfl⟩, ?qm0⟩
              case qa0 => go_num
              case qb0 => exact congrArg (Value.int .u64) (or_digit v b i hb256 Hv.out hi (.inl hi8))
              case qd0 => rw [← Hf2.out, show 9 - (i + 1) + 1 = 9 - i from by omega]
              case qm0 => simp [intOf]; omega
            · have hi1 : 1 ≤ i := by omega
              clear hi0
              go_wp2
              refine ⟨⟨_, _, _, _, _, _, _, ⟨i + 1, by omega, by omega, ?qa1, v + b % 128 * 128 ^ i, ?qb1, digit_lt b Hv.out, ?qd1⟩, rfl, rfl, rfl, rfl, rfl, rfl, rfl⟩, ?qm1⟩
              case qa1 => go_num
              case qb1 => exact congrArg (Value.int .u64) (or_digit v b i hb256 Hv.out hi (.inl hi8))
              case qd1 => rw [← Hf2.out, show 9 - (i + 1) + 1 = 9 - i from by omega]
              case qm1 => simp [intOf]; omega

end Go.Proofs.YtdnllmibchmnnaaDoor
