/-
  What a chunk's bits write is read again.
  Conditions: none.
-/
import Derived.Test.YtdnllmibchmnnaaDoorRdp
import Derived.Test.YtdnllmibchmnnaaDoorCen
namespace Go.Proofs.YtdnllmibchmnnaaDoor
set_option linter.unusedVariables false
set_option linter.unusedSimpArgs false
open Go.RowKit (wrap64)

theorem wrap64_keep (n : Int) (h1 : -9223372036854775808 ≤ n) (h2 : n ≤ 9223372036854775807) : wrap64 n = n := by unfold wrap64; omega
def stOf (c : Ck) : Rs := ⟨c.bits.length, c.n, c.t, c.v, c.step, (c.lead : Int), (c.tail : Int), c.win⟩

theorem tk_at {L A B : List Bool} {y k : Nat} {s : Rs} (hL : L = A ++ bitsOf y k ++ B) (hp : s.p = A.length) : tk L k s = .ok (y % 2 ^ k, { s with p := A.length + k }) := by
  subst hL
  rw [tk_ok (by rw [hp]; simp only [List.length_append, bitsOf_length]; omega), hp, List.append_assoc, List.drop_left, List.take_append_of_le_length (by rw [bitsOf_length]; exact Nat.le_refl _), List.take_of_length_le (by rw [bitsOf_length]; exact Nat.le_refl _), numOf_bitsOf]

theorem marks_shift (A R : List Bool) (f p : Nat) : marks (A ++ R) f (A.length + p) = (marks R f p).map (fun x => (x.1, A.length + x.2)) := by
  induction f generalizing p with
  | zero => rfl
  | succ f ih =>
    have hg : (A ++ R).getD (A.length + p) false = R.getD p false := by
      simp only [List.getD_eq_getElem?_getD, List.getElem?_append_right (Nat.le_add_right _ _), Nat.add_sub_cancel_left]
    by_cases h : p < R.length
    · have h' : A.length + p < (A ++ R).length := by rw [List.length_append]; omega
      cases hb : R.getD p false with
      | true =>
        rw [marks_yes h' (hg.trans hb), marks_yes h hb, Nat.add_assoc, ih]
        cases marks R f (p + 1) <;> simp
      | false =>
        rw [marks_no h' (hg.trans hb), marks_no h hb]
        rfl
    · rw [marks_end h, marks_end (by rw [List.length_append]; omega)]
      rfl
theorem marks_at {L A M B : List Bool} {p m q : Nat} (hL : L = A ++ M ++ B) (hp : p = A.length) (hM : marks (M ++ B) 4 0 = some (m, q)) : marks L 4 p = some (m, A.length + q) := by
  subst hL
  subst hp
  have := marks_shift A (M ++ B) 4 0
  rw [Nat.add_zero] at this
  rw [List.append_assoc, this, hM]
  rfl
theorem marks0 (B : List Bool) : marks (bitsOf 0 1 ++ B) 4 0 = some (0, 1) := by
  have e : bitsOf 0 1 = [false] := by decide
  rw [e]; simp [marks]
theorem marks1 (B : List Bool) : marks (bitsOf 2 2 ++ B) 4 0 = some (1, 2) := by
  have e : bitsOf 2 2 = [true, false] := by decide
  rw [e]; simp [marks]
theorem marks2 (B : List Bool) : marks (bitsOf 6 3 ++ B) 4 0 = some (2, 3) := by
  have e : bitsOf 6 3 = [true, true, false] := by decide
  rw [e]; simp [marks]
theorem marks3 (B : List Bool) : marks (bitsOf 14 4 ++ B) 4 0 = some (3, 4) := by
  have e : bitsOf 14 4 = [true, true, true, false] := by decide
  rw [e]; simp [marks]
theorem marks4 (B : List Bool) : marks (bitsOf 15 4 ++ B) 4 0 = some (4, 4) := by
  have e : bitsOf 15 4 = [true, true, true, true] := by decide
  rw [e]; simp [marks]

theorem sgn7 (c : Int) (h1 : -64 ≤ c) (h2 : c < 64) : sgn 7 (u64 c % 2 ^ 7) = c := by
  unfold sgn u64
  have e : (2 : Nat) ^ 7 = 128 := by decide
  have e' : (2 : Nat) ^ (7 - 1) = 64 := by decide
  have e2 : (2 : Int) ^ 7 = 128 := by decide
  rw [e, e', e2]
  split <;> omega
theorem sgn9 (c : Int) (h1 : -256 ≤ c) (h2 : c < 256) : sgn 9 (u64 c % 2 ^ 9) = c := by
  unfold sgn u64
  have e : (2 : Nat) ^ 9 = 512 := by decide
  have e' : (2 : Nat) ^ (9 - 1) = 256 := by decide
  have e2 : (2 : Int) ^ 9 = 512 := by decide
  rw [e, e', e2]
  split <;> omega
theorem sgn12 (c : Int) (h1 : -2048 ≤ c) (h2 : c < 2048) : sgn 12 (u64 c % 2 ^ 12) = c := by
  unfold sgn u64
  have e : (2 : Nat) ^ 12 = 4096 := by decide
  have e' : (2 : Nat) ^ (12 - 1) = 2048 := by decide
  have e2 : (2 : Int) ^ 12 = 4096 := by decide
  rw [e, e', e2]
  split <;> omega
theorem sgn64 (c : Int) (h1 : -9223372036854775808 ≤ c) (h2 : c ≤ 9223372036854775807) : sgn 64 (u64 c % 2 ^ 64) = c := by
  unfold sgn u64
  have e : (2 : Nat) ^ 64 = 18446744073709551616 := by decide
  have e' : (2 : Nat) ^ (64 - 1) = 9223372036854775808 := by decide
  have e2 : (2 : Int) ^ 64 = 18446744073709551616 := by decide
  rw [e, e', e2]
  split <;> omega

theorem wrap_u64 (c : Int) (h1 : -9223372036854775808 ≤ c) (h2 : c ≤ 9223372036854775807) : wrap64 ((u64 c % 2 ^ 64 : Nat) : Int) = c := by
  unfold wrap64 u64
  have e : (2 : Nat) ^ 64 = 18446744073709551616 := by decide
  rw [e]
  omega
theorem chgR_of {L A B : List Bool} {s : Rs} {M w : Nat} {m x : Nat} {c : Int} (hL : L = A ++ bitsOf M w ++ (bitsOf x (wdt m) ++ B)) (hp : s.p = A.length) (hm : m ≠ 0) (hM : ∀ B, marks (bitsOf M w ++ B) 4 0 = some (m, w)) (hc : sgn (wdt m) (x % 2 ^ wdt m) = c) :
    chgR L s = .ok (c, { s with p := A.length + w + wdt m }) := by
  unfold chgR
  rw [marks_at hL hp (hM _)]
  simp only
  rw [if_neg hm, tk_at (A := A ++ bitsOf M w) (B := B) (y := x) (by rw [hL]; simp only [List.append_assoc]) (by simp only [List.length_append, bitsOf_length])]
  simp only [List.length_append, bitsOf_length]
  rw [hc]
theorem chgR_at {L A B : List Bool} {s : Rs} {c : Int} (hL : L = A ++ chg c ++ B) (hp : s.p = A.length) (h1 : -9223372036854775808 ≤ c) (h2 : c ≤ 9223372036854775807) : chgR L s = .ok (c, { s with p := (A ++ chg c).length }) := by
  unfold chg at hL ⊢
  by_cases h0 : c = 0
  · rw [if_pos h0] at hL ⊢
    unfold chgR
    rw [marks_at hL hp (marks0 _)]
    simp only
    rw [if_pos trivial, h0]
    simp only [List.length_append, bitsOf_length]
  · rw [if_neg h0] at hL ⊢
    by_cases c1 : -64 ≤ c ∧ c < 64
    · rw [if_pos c1] at hL ⊢
      rw [chgR_of (m := 1) (x := u64 c) (by rw [hL]; simp only [List.append_assoc]; rfl) hp (by decide) marks1 (sgn7 c c1.1 c1.2)]
      simp only [List.length_append, bitsOf_length, Nat.add_assoc]; rfl
    · rw [if_neg c1] at hL ⊢
      by_cases c2 : -256 ≤ c ∧ c < 256
      · rw [if_pos c2] at hL ⊢
        rw [chgR_of (m := 2) (x := u64 c) (by rw [hL]; simp only [List.append_assoc]; rfl) hp (by decide) marks2 (sgn9 c c2.1 c2.2)]
        simp only [List.length_append, bitsOf_length, Nat.add_assoc]; rfl
      · rw [if_neg c2] at hL ⊢
        by_cases c3 : -2048 ≤ c ∧ c < 2048
        · rw [if_pos c3] at hL ⊢
          rw [chgR_of (m := 3) (x := u64 c) (by rw [hL]; simp only [List.append_assoc]; rfl) hp (by decide) marks3 (sgn12 c c3.1 c3.2)]
          simp only [List.length_append, bitsOf_length, Nat.add_assoc]; rfl
        · rw [if_neg c3] at hL ⊢
          rw [chgR_of (m := 4) (x := u64 c) (by rw [hL]; simp only [List.append_assoc]; rfl) hp (by decide) marks4 (sgn64 c h1 h2)]
          simp only [List.length_append, bitsOf_length, Nat.add_assoc]; rfl

theorem lz_lt (x : Nat) (h0 : x ≠ 0) (h : x < 18446744073709551616) : x < 2 ^ (64 - lz x) := by
  have hl := log2_lt64 x h0 h
  have h1 : lz x ≤ 63 - x.log2 := by unfold lz; omega
  have h2 : x < 2 ^ (x.log2 + 1) := Nat.lt_log2_self
  exact Nat.lt_of_lt_of_le h2 (Nat.pow_le_pow_right (by decide) (by omega))
/-- The bits that differ are read again, whatever window holds them. -/
theorem body_num (x a z : Nat) (h0 : x ≠ 0) (h : x < 18446744073709551616) (ha : a ≤ lz x) (hz : z ≤ tz x) : x / 2 ^ z % 2 ^ (64 - a - z) * 2 ^ z % 18446744073709551616 = x := by
  have hl := lz_lt x h0 h
  obtain ⟨ht, m, hm⟩ := tz_form x h0 h
  have hk := lz_tz x h0 h
  have hlt : x < 2 ^ (64 - a) := Nat.lt_of_lt_of_le hl (Nat.pow_le_pow_right (by decide) (by omega))
  have hdvd : 2 ^ z ∣ x := by
    rw [hm]
    exact Nat.dvd_trans (Nat.pow_dvd_pow 2 hz) (Nat.dvd_mul_right _ _)
  have hdiv : x / 2 ^ z < 2 ^ (64 - a - z) := by
    rw [Nat.div_lt_iff_lt_mul (Nat.two_pow_pos z), ← Nat.pow_add, show 64 - a - z + z = 64 - a from by omega]
    exact hlt
  rw [Nat.mod_eq_of_lt hdiv, Nat.div_mul_cancel hdvd, Nat.mod_eq_of_lt h]

theorem toNat_sub (a b : Nat) (h : a + b ≤ 63) : (64 - (a : Int) - (b : Int)).toNat = 64 - a - b := by omega
theorem two_bits (y : Nat) : bitsOf y 2 = bitsOf (y / 2 % 2) 1 ++ bitsOf (y % 2) 1 := by
  have e := bitsOf_add y 1 1
  rw [e]
  simp [bitsOf, Nat.testBit_eq_decide_div_mod_eq]

theorem bodyR_at {L A B : List Bool} {s : Rs} {x a z : Nat} (hL : L = A ++ bitsOf (x / 2 ^ z) (64 - a - z) ++ B) (hp : s.p = A.length) (h1 : s.lead = (a : Int)) (h2 : s.tail = (z : Int)) (h3 : s.win = true) (h0 : x ≠ 0) (h : x < 18446744073709551616) (ha : a ≤ lz x) (hz : z ≤ tz x) (haz : a + z ≤ 63) :
    bodyR L s = .ok (x, { s with p := A.length + (64 - a - z) }) := by
  unfold bodyR
  rw [if_pos ⟨h3, by rw [h2]; omega⟩, h1, h2, toNat_sub a z haz, tk_at hL hp]
  simp only [Int.toNat_natCast]
  rw [body_num x a z h0 h ha hz, ← h1, ← h2]

theorem difR_at {L B : List Bool} {c : Ck} {x : Nat} (hx : x < 18446744073709551616) (hw : c.win = true → c.lead + c.tail ≤ 63) (hL : L = (dif x c).bits ++ B) : difR L (stOf c) = .ok (x, stOf (dif x c)) := by
  obtain ⟨bits, n, t, v, step, lead, tail, win⟩ := c
  unfold dif at hL ⊢
  by_cases h0 : x = 0
  · rw [if_pos h0] at hL ⊢
    unfold difR
    rw [tk_at hL rfl]
    simp [stOf, h0, bitsOf_length]
  · rw [if_neg h0] at hL ⊢
    have hk := lz_tz x h0 hx
    by_cases hc : win = true ∧ lead ≤ lz x ∧ tail ≤ tz x
    · rw [if_pos hc] at hL ⊢
      obtain ⟨hc1, hc2, hc3⟩ := hc
      have hlt := hw hc1
      simp only at hlt hL
      unfold difR
      rw [tk_at (A := bits) (y := 1) (k := 1) (B := bitsOf 0 1 ++ bitsOf (x / 2 ^ tail) (64 - lead - tail) ++ B) (by rw [hL, two_bits 2]; simp only [List.append_assoc]) rfl]
      simp only
      rw [if_neg (by decide), tk_at (A := bits ++ bitsOf 1 1) (y := 0) (k := 1) (B := bitsOf (x / 2 ^ tail) (64 - lead - tail) ++ B) (by rw [hL, two_bits 2]; simp only [List.append_assoc]) (by simp [bitsOf_length])]
      simp only
      rw [if_neg (by decide), bodyR_at (A := bits ++ bitsOf 2 2) (x := x) (a := lead) (z := tail) (B := B) (by rw [hL]) (by simp [bitsOf_length]) rfl rfl hc1 h0 hx hc2 hc3 hlt]
      simp only [stOf, List.length_append, bitsOf_length]
    · rw [if_neg hc] at hL ⊢
      simp only at hL
      unfold difR
      rw [tk_at (A := bits) (y := 1) (k := 1) (B := bitsOf 1 1 ++ bitsOf (lz x) 5 ++ bitsOf (63 - lz x - tz x) 6 ++ bitsOf (x / 2 ^ tz x) (64 - lz x - tz x) ++ B) (by rw [hL, two_bits 3]; simp only [List.append_assoc]) rfl]
      simp only
      rw [if_neg (by decide), tk_at (A := bits ++ bitsOf 1 1) (y := 1) (k := 1) (B := bitsOf (lz x) 5 ++ bitsOf (63 - lz x - tz x) 6 ++ bitsOf (x / 2 ^ tz x) (64 - lz x - tz x) ++ B) (by rw [hL, two_bits 3]; simp only [List.append_assoc]) (by simp [bitsOf_length])]
      simp only
      rw [if_pos (by decide)]
      unfold winR
      rw [tk_at (A := bits ++ bitsOf 3 2) (y := lz x) (k := 5) (B := bitsOf (63 - lz x - tz x) 6 ++ bitsOf (x / 2 ^ tz x) (64 - lz x - tz x) ++ B) (by rw [hL]; simp only [List.append_assoc]) (by simp [bitsOf_length])]
      simp only
      rw [tk_at (A := bits ++ bitsOf 3 2 ++ bitsOf (lz x) 5) (y := 63 - lz x - tz x) (k := 6) (B := bitsOf (x / 2 ^ tz x) (64 - lz x - tz x) ++ B) (by rw [hL]; simp only [List.append_assoc]) (by simp [bitsOf_length])]
      simp only
      have e5 : lz x % 2 ^ 5 = lz x := Nat.mod_eq_of_lt (by have : (2 : Nat) ^ 5 = 32 := by decide
                                                            omega)
      have e6 : (63 - lz x - tz x) % 2 ^ 6 = 63 - lz x - tz x := Nat.mod_eq_of_lt (by have : (2 : Nat) ^ 6 = 64 := by decide
                                                                                      omega)
      rw [e5, e6]
      have et : (63 : Int) - (lz x : Int) - ((63 - lz x - tz x : Nat) : Int) = (tz x : Int) := by omega
      rw [et]
      rw [bodyR_at (A := bits ++ bitsOf 3 2 ++ bitsOf (lz x) 5 ++ bitsOf (63 - lz x - tz x) 6) (x := x) (a := lz x) (z := tz x) (B := B) (by rw [hL]) (by simp [bitsOf_length]) rfl rfl rfl h0 hx (Nat.le_refl _) (Nat.le_refl _) hk.2.2]
      simp only [stOf, List.length_append, bitsOf_length]

theorem smpR_zero {L : List Bool} {s : Rs} (h : s.n = 0) : smpR L s = fstR L s := if_pos h
theorem smpR_pos {L : List Bool} {s : Rs} (h : ¬ s.n = 0) : smpR L s = match chgR L s with
    | .error e => .error e
    | .ok (c, s1) => tmR L c s1 := if_neg h
theorem tmR_ok {L : List Bool} {c st t : Int} {s : Rs} (h1 : wrap64 (s.step + c) = st) (h2 : wrap64 (s.t + st) = t) (h3 : 0 ≤ t) (h4 : t ≤ 1125899906842624) (h5 : s.t < t) :
    tmR L c s = match difR L { s with step := st } with
    | .error e => .error e
    | .ok (x, s2) => .ok { s2 with n := s.n + 1, t := t, v := s.v ^^^ x } := by
  unfold tmR
  simp only [h1, h2]
  rw [if_neg (by omega), if_neg (by omega)]
  rfl
theorem app_bounds {c : Ck} {t : Int} (hf : appF c t = 0) (hn : c.n ≤ 120) : 0 ≤ t ∧ t ≤ 1125899906842624 ∧ (0 < c.n → c.t < t) ∧ c.n < 120 := by
  unfold appF at hf
  split at hf
  · exact absurd hf (by decide)
  · split at hf
    · exact absurd hf (by decide)
    · split at hf
      · exact absurd hf (by decide)
      · rename_i a1 a2 a3
        refine ⟨by omega, by omega, fun h => ?_, by omega⟩
        by_cases h5 : t ≤ c.t
        · exact absurd ⟨h, h5⟩ a2
        · omega

theorem chk_bits (x : Nat) (c : Ck) : ∃ l, (dif x c).bits = c.bits ++ l := by
  unfold dif
  repeat' split
  all_goals simp only [List.append_assoc]
  all_goals exact ⟨_, rfl⟩

theorem smpR_at {L B : List Bool} {c : Ck} {t : Int} {x : Nat} (hk : CkOk c) (hx : x < 18446744073709551616) (hf : appF c t = 0) (hL : L = (appS c t x).bits ++ B) (h0 : c.n = 0 → c.bits = []) : smpR L (stOf c) = .ok (stOf (appS c t x)) := by
  obtain ⟨b1, b2, b3, b4⟩ := app_bounds hf hk.n
  have hs0 := hk.s0
  have hs1 := hk.s1
  have ht0 := hk.t0
  have ht1 := hk.t1
  have hv := hk.v
  have hw := hk.win
  obtain ⟨bits, n, tt, v, step, lead, tail, win⟩ := c
  simp only at b3 b4 hs0 hs1 ht0 ht1 hv hw
  unfold appS at hL ⊢
  by_cases hn : n = 0
  · rw [if_pos hn] at hL ⊢
    rw [smpR_zero (by exact hn)]
    simp only [stOf]
    simp only at hL
    unfold fstR
    rw [tk_at (A := bits) (y := u64 t) (k := 64) (B := bitsOf x 64 ++ B) (by rw [hL]; simp only [List.append_assoc]) rfl]
    simp only
    rw [wrap_u64 t (by omega) (by omega), if_neg (by omega), tk_at (A := bits ++ bitsOf (u64 t) 64) (y := x) (k := 64) (B := B) (by rw [hL]) (by simp [bitsOf_length])]
    simp only
    have e : (2 : Nat) ^ 64 = 18446744073709551616 := by decide
    rw [e, Nat.mod_eq_of_lt hx]
    simp only [stOf, List.length_append, bitsOf_length]
  · rw [if_neg hn] at hL ⊢
    rw [smpR_pos (by exact hn)]
    have hlt := b3 (by omega)
    obtain ⟨l, hl⟩ := chk_bits (x ^^^ v) { bits := bits ++ chg (t - tt - step), n := n, t := tt, v := v, step := t - tt, lead := lead, tail := tail, win := win : Ck }
    simp only at hL hl
    rw [chgR_at (A := bits) (c := t - tt - step) (B := l ++ B) (by rw [hL, hl]; simp only [List.append_assoc]) rfl (by omega) (by omega)]
    simp only
    have e1 : wrap64 (step + (t - tt - step)) = t - tt := by rw [show step + (t - tt - step) = t - tt from by omega]; exact wrap64_keep _ (by omega) (by omega)
    have e2 : wrap64 (tt + (t - tt)) = t := by rw [show tt + (t - tt) = t from by omega]; exact wrap64_keep _ (by omega) (by omega)
    rw [tmR_ok (st := t - tt) (t := t) (by exact e1) (by exact e2) b1 b2 (by exact hlt)]
    have hd := difR_at (L := L) (B := B) (c := { bits := bits ++ chg (t - tt - step), n := n, t := tt, v := v, step := t - tt, lead := lead, tail := tail, win := win : Ck }) (x := x ^^^ v) (Nat.xor_lt_two_pow (n := 64) hx hv) hw hL
    simp only [stOf] at hd ⊢
    rw [hd]
    simp only
    obtain ⟨k1, k2, k3⟩ := dif_same (x ^^^ v) { bits := bits ++ chg (t - tt - step), n := n, t := tt, v := v, step := t - tt, lead := lead, tail := tail, win := win : Ck }
    have ex : v ^^^ (x ^^^ v) = x := by rw [Nat.xor_comm x v, ← Nat.xor_assoc, Nat.xor_self, Nat.zero_xor]
    rw [ex]

end Go.Proofs.YtdnllmibchmnnaaDoor
