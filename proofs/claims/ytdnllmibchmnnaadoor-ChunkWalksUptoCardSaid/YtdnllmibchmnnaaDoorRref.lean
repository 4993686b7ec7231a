/-
  The contract of the document's ReadUint: the same as that of enc.ReadUint.
-/
import Derived.Test.YtdnllmibchmnnaaDoorRead
namespace Go.Proofs.YtdnllmibchmnnaaDoor
set_option linter.unusedVariables false
set_option linter.unusedSimpArgs false
open Go.RowKit

def tailD (l : List Nat) (J m : Nat) : Nat := digits ((l.drop m).take (J + 1 - m))

theorem tailD_end (l : List Nat) (J : Nat) : tailD l J (J + 1) = 0 := by simp [tailD, digits]
theorem tailD_step (l : List Nat) (J m : Nat) (h : J < l.length) (hm : m ≤ J) : tailD l J m = l.getD m 0 % 128 + 128 * tailD l J (m + 1) := by
  unfold tailD
  have hl : m < l.length := by omega
  rw [List.drop_eq_getElem_cons hl, show J + 1 - m = (J + 1 - (m + 1)) + 1 from by omega, List.take_succ_cons, digits, List.getD_eq_getElem?_getD, List.getElem?_eq_getElem hl]
  rfl
theorem tailD_le (l : List Nat) (J m : Nat) (h : J < l.length) (hm : m ≤ J + 1) : tailD l J m ≤ tailD l J 0 := by
  induction m with
  | zero => exact Nat.le_refl _
  | succ m ih =>
    have h1 := ih (by omega)
    have h2 := tailD_step l J m h (by omega)
    omega
theorem tailD_zero (l : List Nat) (J : Nat) : tailD l J 0 = digits (l.take (J + 1)) := by simp [tailD]
theorem getD_dropN (l : List Nat) (i j : Nat) : (l.drop i).getD j 0 = l.getD (i + j) 0 := by simp [List.getD, List.getElem?_drop]

theorem tailD_lim (l : List Nat) (J : Nat) (h : J < l.length) (hJ : J ≤ 8 ∨ J = 9 ∧ l.getD J 0 ≤ 1) : tailD l J 0 < 18446744073709551616 := by
  rw [tailD_zero, digits_take_succ l J h]
  have h1 := digits_lt (l.take J)
  have h2 : (l.take J).length = J := by rw [List.length_take]; omega
  rw [h2] at h1
  have h8 : (128 : Nat) ^ 8 = 72057594037927936 := by decide
  have h9 : (128 : Nat) ^ 9 = 9223372036854775808 := by decide
  rcases hJ with hJ | ⟨rfl, hb⟩
  · have h3 : (128 : Nat) ^ J ≤ 128 ^ 8 := Nat.pow_le_pow_right (by decide) hJ
    have h4 : l[J] % 128 ≤ 127 := by omega
    have h5 : 128 ^ J * (l[J] % 128) ≤ 72057594037927936 * 127 := Nat.mul_le_mul (by omega) h4
    omega
  · rw [List.getD_eq_getElem?_getD, List.getElem?_eq_getElem h, Option.getD_some] at hb
    have h4 : l[9] % 128 ≤ 1 := by omega
    have h5 : 128 ^ 9 * (l[9] % 128) ≤ 9223372036854775808 * 1 := Nat.mul_le_mul (by omega) h4
    omega

/-- ReadUint by the count of the bytes ahead of the last. -/
theorem readU_span (l : List Nat) (a J : Nat) (h : a < l.length) (hJ : spanN 9 (l.drop a) = J) :
    readU l (a : Int) = if l.length ≤ a + J then (0, 0, 20) else if J = 9 ∧ 1 < l.getD (a + J) 0 ∨ 0 < J ∧ l.getD (a + J) 0 = 0 then (0, 0, 21) else (tailD (l.drop a) J 0, a + J + 1, 0) := by
  rw [readU_in l a h, rdN_span 9 (l.drop a) 0 0 (by omega), hJ]
  by_cases hl : l.length ≤ a + J
  · rw [if_pos hl, List.getElem?_drop, List.getElem?_eq_none hl]
  · have hlt : a + J < l.length := by omega
    rw [if_neg hl, List.getElem?_drop, List.getElem?_eq_getElem hlt, List.getD_eq_getElem?_getD, List.getElem?_eq_getElem hlt]
    simp only [Nat.zero_add, Option.getD_some]
    by_cases hc : J = 9 ∧ 1 < l[a + J] ∨ 0 < J ∧ l[a + J] = 0
    · rw [if_pos hc, if_pos hc]
    · rw [if_neg hc, if_neg hc, tailD_zero]
      simp [Nat.add_assoc]

theorem span_step (k : Nat) (r : List Nat) (b : Nat) (h : r[0]? = some b) (hb : 127 < b) : spanN (k + 1) r = spanN k (r.drop 1) + 1 := by
  cases r with
  | nil => simp at h
  | cons c r =>
    obtain rfl : c = b := by simpa using h
    simp [spanN, hb]
theorem span_stop (k : Nat) (r : List Nat) (b : Nat) (h : r[0]? = some b) (hb : b ≤ 127) : spanN k r = 0 := by
  cases k with
  | zero => rfl
  | succ k =>
    cases r with
    | nil => simp at h
    | cons c r =>
      obtain rfl : c = b := by simpa using h
      simp [spanN]; omega
theorem span_nil (k : Nat) (r : List Nat) (h : r = []) : spanN k r = 0 := by
  subst h
  cases k <;> rfl

set_option maxRecDepth 100000 in
set_option maxHeartbeats 1000000 in
theorem rreaduint_out (s : ByteArray) (a : Int) (hs : s.size ≤ 4611686018427387904) (ha : a < 0 ∨ (s.size : Int) ≤ a) (w : World) :
    Calls Tryd.prog 37 #[.string s, .int .i64 a] w fun e w' => e = .returned (tellU (readU (bl s) a)) ∧ w = w' := by
  rw [readU_out _ _ (by rw [bl_length]; exact ha)]
  by_cases h0 : a < 0
  · go_enter Tryd.func37, Tryd.ntmps37
    go_wp2
    go_ret3
    exact ⟨rfl, rfl⟩
  · have h1 : (s.size : Int) ≤ a := by omega
    go_enter Tryd.func37, Tryd.ntmps37
    go_wp2
    go_ret3
    exact ⟨rfl, rfl⟩

set_option maxRecDepth 100000 in
set_option maxHeartbeats 8000000 in
theorem rreaduint_in (s : ByteArray) (a : Nat) (hs : s.size ≤ 4611686018427387904) (ha : a < s.size) (w : World) :
    Calls Tryd.prog 37 #[.string s, .int .i64 (a : Int)] w fun e w' => e = .returned (tellU (readU (bl s) a)) ∧ w = w' := by
  have hin := fun J hJ => readU_span (bl s) a J (by rw [bl_length]; exact ha) hJ
  have hbl := bl_length s
  have Hin := hide hin
  have Hbl := hide hbl
  have hd1 : decide ((a : Int) < 0) = false := by simp
  have hd2 : decide ((s.size : Int) ≤ (a : Int)) = false := by simp; omega
  clear hin hbl
  go_enter Tryd.func37, Tryd.ntmps37
  go_wp2
  go_loop [7] (fun x => ∃ j : Nat, j ≤ 9 ∧ a + j ≤ s.size ∧ x = .int .i64 ((a : Int) + (j : Int)) ∧ spanN 9 ((bl s).drop a) = j + spanN (9 - j) ((bl s).drop (a + j)))
    (fun x => ((a : Int) + 10 - intOf x).toNat)
  case atStart => exact ⟨0, by omega, by omega, by go_num, by simp⟩
  case round =>
    obtain ⟨j, hj, haj, rfl, hsp⟩ := hrel
    have Hsp := hide hsp
    clear hsp
    by_cases hend : a + j = s.size
    · have hse : ((a : Int) + (j : Int) == (s.size : Int)) = true := by rw [beq_iff_eq]; omega
      have hle : s.size ≤ a + j := by omega
      have hj' : spanN 9 ((bl s).drop a) = j := by
        rw [Hsp.out, span_nil _ _ (List.drop_eq_nil_of_le (by rw [Hbl.out]; exact hle))]; omega
      have hfin := Hin.out j hj'
      rw [if_pos (by rw [Hbl.out]; exact hle)] at hfin
      have Hfin := hide hfin
      clear hend hfin hj'
      go_wp2
      go_ret3
      rw [Hfin.out]
      exact ⟨rfl, rfl⟩
    · have hlt : a + j < s.size := by omega
      have hse : ((a : Int) + (j : Int) == (s.size : Int)) = false := by rw [beq_eq_false_iff_ne]; omega
      clear hend
      obtain ⟨b, hb⟩ : ∃ b, b = (bl s).getD (a + j) 0 := ⟨_, rfl⟩
      have hidx := idx_str Tryd.underlying9 s (a + j) ((a : Int) + (j : Int)) (by omega) hlt b hb
      have hl : a + j < (bl s).length := by rw [Hbl.out]; exact hlt
      have hb256 : b < 256 := by
        rw [hb, List.getD_eq_getElem?_getD, List.getElem?_eq_getElem hl]
        exact bl_lt s _ (List.getElem_mem hl)
      have hget : ((bl s).drop (a + j))[0]? = some b := by
        rw [List.getElem?_drop, Nat.add_zero, hb, List.getD_eq_getElem?_getD, List.getElem?_eq_getElem hl]; rfl
      have Hget := hide hget
      have Hb := hide hb
      clear hget hb hl
      by_cases hgo : j ≤ 8 ∧ 128 ≤ b
      · obtain ⟨hj8, hb128⟩ := hgo
        have hst := span_step (8 - j) _ b Hget.out (by omega)
        rw [List.drop_drop, show 8 - j + 1 = 9 - j from by omega] at hst
        have Hst := hide hst
        clear hst
        go_wp2
        go_round
        case measure => simp only [intOf]; omega
        case rel =>
          refine ⟨j + 1, by omega, by omega, by omega, ?_⟩
          rw [Hsp.out, Hst.out, show 9 - (j + 1) = 8 - j from by omega, show a + (j + 1) = a + j + 1 from by omega]
          omega
      · have hj' : spanN 9 ((bl s).drop a) = j := by
          rw [Hsp.out]
          by_cases h9 : j = 9
          · subst h9; rfl
          · rw [span_stop _ _ b Hget.out (by omega)]; omega
        have hfin := Hin.out j hj'
        rw [if_neg (by rw [Hbl.out]; omega), ← Hb.out] at hfin
        clear hj'
        by_cases h9 : j = 9
        · have hj9 : 9 ≤ j := by omega
          have hn9 : ((a : Int) + (j : Int) == (a : Int) + 9) = true := by rw [beq_iff_eq]; omega
          clear hgo
          by_cases hb1 : 1 < b
          · rw [if_pos (.inl ⟨h9, hb1⟩)] at hfin
            have Hfin := hide hfin
            clear hfin h9
            go_wp2
            go_ret3
            rw [Hfin.out]
            exact ⟨rfl, rfl⟩
          · by_cases hb0 : b = 0
            · rw [if_pos (.inr ⟨by omega, hb0⟩)] at hfin
              have Hfin := hide hfin
              have hz : ((b : Int) == 0) = true := by rw [beq_iff_eq]; omega
              clear hfin h9 hb0
              go_wp2
              go_ret3
              rw [Hfin.out]
              exact ⟨rfl, rfl⟩
            · rw [if_neg (by omega)] at hfin
              have Hfin := hide hfin
              have hlim := tailD_lim ((bl s).drop a) j (by rw [List.length_drop, Hbl.out]; omega) (.inr ⟨h9, by rw [getD_dropN, ← Hb.out]; omega⟩)
              have Hlim := hide hlim
              have hz : ((b : Int) == 0) = false := by rw [beq_eq_false_iff_ne]; omega
              clear hfin h9 hb0 hlim
              go_wp2
              go_loop [8, 9] (fun x y => ∃ m : Nat, m ≤ j + 1 ∧ y = .int .i64 ((a : Int) + (m : Int) - 1) ∧ x = .int .u64 ((tailD ((bl s).drop a) j m : Nat) : Int)) (fun _ y => ((intOf y) - (a : Int) + 1).toNat)
              case atStart => exact ⟨j + 1, by omega, by congr 1; omega, by rw [tailD_end]; rfl⟩
              case round =>
                obtain ⟨m, hm, rfl, rfl⟩ := hrel
                by_cases hm0 : 0 < m
                · obtain ⟨y, hy⟩ : ∃ y, y = (bl s).getD (a + m - 1) 0 := ⟨_, rfl⟩
                  have hix := idx_str Tryd.underlying9 s (a + m - 1) ((a : Int) + (m : Int) - 1) (by omega) (by omega) y hy
                  have hst := tailD_step ((bl s).drop a) j (m - 1) (by rw [List.length_drop, Hbl.out]; omega) (by omega)
                  have hle := tailD_le ((bl s).drop a) j (m - 1) (by rw [List.length_drop, Hbl.out]; omega) (by omega)
                  rw [getD_dropN, show a + (m - 1) = a + m - 1 from by omega, ← hy, show m - 1 + 1 = m from by omega] at hst
                  have h64 := Hlim.out
                  generalize tailD ((bl s).drop a) j m = D at hst ⊢
                  have hb1 : D * 128 + y % 128 < 18446744073709551616 := by omega
                  have Hst := hide hst
                  clear hst hle h64 hy
                  go_wp2
                  go_round
                  case measure => simp [intOf]; omega
                  case rel =>
                    refine ⟨m - 1, by omega, by congr 1; omega, ?_⟩
                    rw [Hst.out]
                    congr 1; omega
                · obtain rfl : m = 0 := by omega
                  go_wp2
                  go_ret3
                  rw [Hfin.out]
                  exact ⟨ret3 rfl (by omega), rfl⟩
        · have hj8 : j ≤ 8 := by omega
          have hb127 : b ≤ 127 := by omega
          have hn9 : ((a : Int) + (j : Int) == (a : Int) + 9) = false := by rw [beq_eq_false_iff_ne]; omega
          clear hgo h9
          by_cases hj0 : 0 < j
          · by_cases hb0 : b = 0
            · rw [if_pos (.inr ⟨hj0, hb0⟩)] at hfin
              have Hfin := hide hfin
              have hz : ((b : Int) == 0) = true := by rw [beq_iff_eq]; omega
              clear hfin hb0
              go_wp2
              all_goals
                go_ret3
                rw [Hfin.out]
                exact ⟨rfl, rfl⟩
            · rw [if_neg (by omega)] at hfin
              have Hfin := hide hfin
              have hlim := tailD_lim ((bl s).drop a) j (by rw [List.length_drop, Hbl.out]; omega) (.inl hj8)
              have Hlim := hide hlim
              have hz : ((b : Int) == 0) = false := by rw [beq_eq_false_iff_ne]; omega
              clear hfin hb0 hlim
              go_wp2
              go_loop [8, 9] (fun x y => ∃ m : Nat, m ≤ j + 1 ∧ y = .int .i64 ((a : Int) + (m : Int) - 1) ∧ x = .int .u64 ((tailD ((bl s).drop a) j m : Nat) : Int)) (fun _ y => ((intOf y) - (a : Int) + 1).toNat)
              case atStart => exact ⟨j + 1, by omega, by congr 1; omega, by rw [tailD_end]; rfl⟩
              case round =>
                obtain ⟨m, hm, rfl, rfl⟩ := hrel
                by_cases hm0 : 0 < m
                · obtain ⟨y, hy⟩ : ∃ y, y = (bl s).getD (a + m - 1) 0 := ⟨_, rfl⟩
                  have hix := idx_str Tryd.underlying9 s (a + m - 1) ((a : Int) + (m : Int) - 1) (by omega) (by omega) y hy
                  have hst := tailD_step ((bl s).drop a) j (m - 1) (by rw [List.length_drop, Hbl.out]; omega) (by omega)
                  have hle := tailD_le ((bl s).drop a) j (m - 1) (by rw [List.length_drop, Hbl.out]; omega) (by omega)
                  rw [getD_dropN, show a + (m - 1) = a + m - 1 from by omega, ← hy, show m - 1 + 1 = m from by omega] at hst
                  have h64 := Hlim.out
                  generalize tailD ((bl s).drop a) j m = D at hst ⊢
                  have hb1 : D * 128 + y % 128 < 18446744073709551616 := by omega
                  have Hst := hide hst
                  clear hst hle h64 hy
                  go_wp2
                  go_round
                  case measure => simp [intOf]; omega
                  case rel =>
                    refine ⟨m - 1, by omega, by congr 1; omega, ?_⟩
                    rw [Hst.out]
                    congr 1; omega
                · obtain rfl : m = 0 := by omega
                  go_wp2
                  go_ret3
                  rw [Hfin.out]
                  exact ⟨ret3 rfl (by omega), rfl⟩
          · rw [if_neg (by omega)] at hfin
            have Hfin := hide hfin
            have hlim := tailD_lim ((bl s).drop a) j (by rw [List.length_drop, Hbl.out]; omega) (.inl hj8)
            have Hlim := hide hlim
            have hj1 : j ≤ 0 := by omega
            clear hfin hlim hj0
            go_wp2
            go_loop [8, 9] (fun x y => ∃ m : Nat, m ≤ j + 1 ∧ y = .int .i64 ((a : Int) + (m : Int) - 1) ∧ x = .int .u64 ((tailD ((bl s).drop a) j m : Nat) : Int)) (fun _ y => ((intOf y) - (a : Int) + 1).toNat)
            case atStart => exact ⟨j + 1, by omega, by congr 1; omega, by rw [tailD_end]; rfl⟩
            case round =>
              obtain ⟨m, hm, rfl, rfl⟩ := hrel
              by_cases hm0 : 0 < m
              · obtain ⟨y, hy⟩ : ∃ y, y = (bl s).getD (a + m - 1) 0 := ⟨_, rfl⟩
                have hix := idx_str Tryd.underlying9 s (a + m - 1) ((a : Int) + (m : Int) - 1) (by omega) (by omega) y hy
                have hst := tailD_step ((bl s).drop a) j (m - 1) (by rw [List.length_drop, Hbl.out]; omega) (by omega)
                have hle := tailD_le ((bl s).drop a) j (m - 1) (by rw [List.length_drop, Hbl.out]; omega) (by omega)
                rw [getD_dropN, show a + (m - 1) = a + m - 1 from by omega, ← hy, show m - 1 + 1 = m from by omega] at hst
                have h64 := Hlim.out
                generalize tailD ((bl s).drop a) j m = D at hst ⊢
                have hb1 : D * 128 + y % 128 < 18446744073709551616 := by omega
                have Hst := hide hst
                clear hst hle h64 hy
                go_wp2
                go_round
                case measure => simp [intOf]; omega
                case rel =>
                  refine ⟨m - 1, by omega, by congr 1; omega, ?_⟩
                  rw [Hst.out]
                  congr 1; omega
              · obtain rfl : m = 0 := by omega
                go_wp2
                go_ret3
                rw [Hfin.out]
                exact ⟨ret3 rfl (by omega), rfl⟩

/-- Whatever is read at whatever place. -/
theorem readuint_wide (s : ByteArray) (a : Int) (hs : s.size ≤ 4611686018427387904) (w : World) :
    Calls Tryd.prog 53 #[.string s, .int .i64 a] w fun e w' => e = .returned (tellU (readU (bl s) a)) ∧ w = w' := by
  by_cases h : a < 0 ∨ (s.size : Int) ≤ a
  · exact readuint_out s a hs h w
  · obtain ⟨n, rfl⟩ : ∃ n : Nat, a = (n : Int) := ⟨a.toNat, by omega⟩
    exact readuint_in s n hs (by omega) w
theorem rreaduint_wide (s : ByteArray) (a : Int) (hs : s.size ≤ 4611686018427387904) (w : World) :
    Calls Tryd.prog 37 #[.string s, .int .i64 a] w fun e w' => e = .returned (tellU (readU (bl s) a)) ∧ w = w' := by
  by_cases h : a < 0 ∨ (s.size : Int) ≤ a
  · exact rreaduint_out s a hs h w
  · obtain ⟨n, rfl⟩ : ∃ n : Nat, a = (n : Int) := ⟨a.toNat, by omega⟩
    exact rreaduint_in s n hs (by omega) w

theorem readuint_any (s : ByteArray) (a : Int) (hs : s.size ≤ 140737488355328) (w : World) :
    Calls Tryd.prog 53 #[.string s, .int .i64 a] w fun e w' => e = .returned (tellU (readU (bl s) a)) ∧ w = w' := readuint_wide s a (by omega) w
theorem rreaduint_any (s : ByteArray) (a : Int) (hs : s.size ≤ 140737488355328) (w : World) :
    Calls Tryd.prog 37 #[.string s, .int .i64 a] w fun e w' => e = .returned (tellU (readU (bl s) a)) ∧ w = w' := rreaduint_wide s a (by omega) w

end Go.Proofs.YtdnllmibchmnnaaDoor
