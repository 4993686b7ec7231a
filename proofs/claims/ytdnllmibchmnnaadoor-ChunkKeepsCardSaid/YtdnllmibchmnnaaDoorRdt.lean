/-
  What a chunk writes is read back: its bytes have its samples, and no fault.
  Conditions: none.
-/
import Derived.Test.YtdnllmibchmnnaaDoorDec
namespace Go.Proofs.YtdnllmibchmnnaaDoor
set_option linter.unusedVariables false
set_option linter.unusedSimpArgs false

theorem ckN_congr {F G : Nat → Smp} {n : Nat} (h : ∀ i, i < n → F i = G i) : ckN F n = ckN G n := by
  induction n with
  | zero => rfl
  | succ n ih => rw [ckN, ckN, ih (fun i hi => h i (by omega)), h n (by omega)]
theorem ckFa_congr {F G : Nat → Smp} {n : Nat} (h : ∀ i, i < n → F i = G i) : ckFa F n = ckFa G n := by
  induction n with
  | zero => rfl
  | succ n ih => rw [ckFa, ckFa, ih (fun i hi => h i (by omega)), ckN_congr (fun i hi => h i (by omega)), h n (by omega)]

theorem byteOf_bit (b : List Bool) (j : Nat) (hj : j < 8) : (byteOf b).testBit (7 - j) = b.getD j false := by
  have h : ∀ c0 c1 c2 c3 c4 c5 c6 c7 : Bool, ∀ k : Fin 8, (128 * c0.toNat + 64 * c1.toNat + 32 * c2.toNat + 16 * c3.toNat + 8 * c4.toNat + 4 * c5.toNat + 2 * c6.toNat + c7.toNat).testBit (7 - k.val) = (if k.val = 0 then c0 else if k.val = 1 then c1 else if k.val = 2 then c2 else if k.val = 3 then c3 else if k.val = 4 then c4 else if k.val = 5 then c5 else if k.val = 6 then c6 else c7) := by decide +kernel
  have := h (b.getD 0 false) (b.getD 1 false) (b.getD 2 false) (b.getD 3 false) (b.getD 4 false) (b.getD 5 false) (b.getD 6 false) (b.getD 7 false) ⟨j, hj⟩
  unfold byteOf
  rw [this]
  simp only
  obtain rfl | rfl | rfl | rfl | rfl | rfl | rfl | rfl : j = 0 ∨ j = 1 ∨ j = 2 ∨ j = 3 ∨ j = 4 ∨ j = 5 ∨ j = 6 ∨ j = 7 := by omega
  all_goals simp

/-- The bits of packed bits: they, filled up with 0. -/
theorem unpack_pack (l : List Bool) : ∃ r, unpack (pack l) = l ++ r := by
  refine ⟨(unpack (pack l)).drop l.length, ?_⟩
  have hlen : (unpack (pack l)).length = 8 * ((l.length + 7) / 8) := by rw [unpack_length, pack_length]
  have : (unpack (pack l)).take l.length = l := by
    apply List.ext_getElem?
    intro i
    by_cases hi : i < l.length
    · rw [List.getElem?_take_of_lt hi, unpack_get _ _ (by rw [pack_length]; omega)]
      have hd : i / 8 < (l.length + 7) / 8 := by omega
      have hg : (pack l).getD (i / 8) 0 = byteOf (l.drop (8 * (i / 8))) := by
        simp only [List.getD, pack_get, if_pos hd, Option.getD_some]
      rw [hg, byteOf_bit _ _ (Nat.mod_lt _ (by decide)), getD_drop, show 8 * (i / 8) + i % 8 = i from by omega, List.getElem?_eq_getElem hi]
      simp [List.getD, hi]
    · rw [List.getElem?_eq_none (by rw [List.length_take]; omega), List.getElem?_eq_none (by omega)]
  conv => lhs; rw [← List.take_append_drop l.length (unpack (pack l)), this]

theorem appS_bits (c : Ck) (t : Int) (x : Nat) : ∃ q, (appS c t x).bits = c.bits ++ q := by
  unfold appS
  split
  · exact ⟨_, by simp only [List.append_assoc]; rfl⟩
  · obtain ⟨q, hq⟩ := chk_bits (x ^^^ c.v) { c with bits := c.bits ++ chg (t - c.t - c.step), step := t - c.t }
    exact ⟨chg (t - c.t - c.step) ++ q, by simp only [hq, List.append_assoc]⟩

/-- Every sample that a chunk holds is read from its bits. -/
theorem rdS_back {F : Nat → Smp} {n : Nat} {r L : List Bool} (hok : ∀ i, i < n → (F i).Ok) (hz : ckFa F n = 0) (hL : L = (ckN F n).bits ++ r) : ∀ k, k ≤ n → rdS L k = .ok (stOf (ckN F k)) := by
  have hzk : ∀ k, k ≤ n → ckFa F k = 0 := by
    intro k hk
    by_cases h : ckFa F k = 0
    · exact h
    · have := ckFa_stays F k h n hk
      rw [hz] at this
      exact this.symm
  have hpre : ∀ k, k ≤ n → ∃ q, (ckN F n).bits = (ckN F k).bits ++ q := by
    intro k hk
    clear hL hz hok hzk
    induction n with
    | zero => obtain rfl : k = 0 := by omega
              exact ⟨[], by simp⟩
    | succ m ih =>
      by_cases e : k = m + 1
      · subst e; exact ⟨[], by simp⟩
      · obtain ⟨q, hq⟩ := ih (by omega)
        obtain ⟨q2, hq2⟩ := appS_bits (ckN F m) (F m).t (F m).v
        exact ⟨q ++ q2, by rw [ckN, hq2, hq, List.append_assoc]⟩
  intro k hk
  induction k with
  | zero => rfl
  | succ k ih =>
    have h1 := ih (by omega)
    obtain ⟨q, hq⟩ := hpre (k + 1) hk
    obtain ⟨h2, h3⟩ := ckFa_zero F k (hzk (k + 1) hk)
    have hck := ckN_ok F n hok k (by omega) h2
    rw [rdS, h1]
    exact smpR_at (B := q ++ r) hck (hok k (by omega)).v h3 (by rw [hL, hq, List.append_assoc]; rfl) (fun h0 => by rw [ckN_n] at h0; subst h0; rfl)

theorem readU_ck (c : Ck) (hn : c.n < 18446744073709551616) : readU (ckB c) 0 = (c.n, (uintB c.n).length, 0) := by
  have := readU_uint [] (pack c.bits) c.n hn
  simpa [ckB] using this

/-- A chunk's bytes: all its samples, and no fault. -/
theorem dec_back {F : Nat → Smp} {n : Nat} (hok : ∀ i, i < n → (F i).Ok) (hz : ckFa F n = 0) : decE (ckB (ckN F n)) = 0 ∧ decN (ckB (ckN F n)) = n ∧ ∀ i, i < n → rdF (rdL (ckB (ckN F n))) i = F i := by
  have hck := ckN_ok F n hok n (Nat.le_refl _) hz
  have h120 := hck.n
  rw [ckN_n] at h120
  have hr := readU_ck (ckN F n) (by rw [ckN_n]; omega)
  rw [ckN_n] at hr
  have hL : rdL (ckB (ckN F n)) = unpack (pack (ckN F n).bits) := by
    unfold rdL
    rw [hr]
    simp only [ckB, ckN_n, List.drop_left]
  obtain ⟨r, hu⟩ := unpack_pack (ckN F n).bits
  rw [hu] at hL
  have hS := rdS_back hok hz hL
  have hF : ∀ i, i < n → rdF (rdL (ckB (ckN F n))) i = F i := by
    intro i hi
    have h1 := rdF_ok (hS (i + 1) (by omega))
    rw [h1]
    have e1 := ckN_t F i
    have e2 := ckN_v F i
    show Smp.mk (ckN F (i + 1)).t (ckN F (i + 1)).v = F i
    rw [e1, e2]
  have hM : rdM (ckB (ckN F n)) = (n, 0) := by
    unfold rdM
    rw [hr]
    simp only
    rw [if_neg (by simp), if_neg (by omega)]
    have := rdE_ok (hS n (Nat.le_refl _))
    unfold rdL at this
    rw [hr] at this
    exact this
  have hE : decE (ckB (ckN F n)) = 0 := by
    unfold decE
    rw [hM]
    simp only
    rw [if_neg (by simp), ckN_congr hF, if_pos rfl]
  exact ⟨hE, by unfold decN; rw [hE, hM]; simp, hF⟩

end Go.Proofs.YtdnllmibchmnnaaDoor
