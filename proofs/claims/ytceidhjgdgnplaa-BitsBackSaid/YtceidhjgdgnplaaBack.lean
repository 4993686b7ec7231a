/-
  Plain laws: what a packed list of bits reads back as.
  Conditions: none.
-/
import Derived.Test.YtceidhjgdgnplaaLawPacks
import Derived.Test.YtceidhjgdgnplaaTake
namespace Go.Proofs.Ytceidhjgdgnplaa

theorem testBit_byte (b : List Bool) (j : Nat) (hj : j < 8) : (byteOf b).testBit (7 - j) = b.getD j false := by
  have key : ∀ (b0 b1 b2 b3 b4 b5 b6 b7 : Bool) (j : Fin 8),
      (128 * b0.toNat + 64 * b1.toNat + 32 * b2.toNat + 16 * b3.toNat + 8 * b4.toNat + 4 * b5.toNat + 2 * b6.toNat + b7.toNat).testBit (7 - j.val) =
        (match j.val with | 0 => b0 | 1 => b1 | 2 => b2 | 3 => b3 | 4 => b4 | 5 => b5 | 6 => b6 | _ => b7) := by decide
  have h := key (b.getD 0 false) (b.getD 1 false) (b.getD 2 false) (b.getD 3 false) (b.getD 4 false) (b.getD 5 false) (b.getD 6 false) (b.getD 7 false) ⟨j, hj⟩
  unfold byteOf
  simp only at h
  rw [h]
  match j, hj with
  | 0, _ => rfl
  | 1, _ => rfl
  | 2, _ => rfl
  | 3, _ => rfl
  | 4, _ => rfl
  | 5, _ => rfl
  | 6, _ => rfl
  | 7, _ => rfl
  | j + 8, hj => omega

theorem unpack_pack (l : List Bool) : unpack (pack l) = l ++ List.replicate (8 * ((l.length + 7) / 8) - l.length) false := by
  apply List.ext_getElem?
  intro i
  by_cases hi : i < 8 * ((l.length + 7) / 8)
  · rw [unpack_get _ _ (by rw [pack_length]; exact hi), List.getElem?_append]
    have hd : i / 8 < (l.length + 7) / 8 := by omega
    have hb : (pack l).getD (i / 8) 0 = byteOf (l.drop (8 * (i / 8))) := by
      rw [List.getD_eq_getElem?_getD, pack_get, if_pos hd]; rfl
    rw [hb, testBit_byte _ _ (by omega), getD_drop, show 8 * (i / 8) + i % 8 = i from by omega]
    by_cases hl : i < l.length
    · rw [if_pos hl, List.getD_eq_getElem?_getD, List.getElem?_eq_getElem hl]; rfl
    · rw [if_neg hl, List.getElem?_replicate, if_pos (by omega), List.getD_eq_getElem?_getD, List.getElem?_eq_none (by omega)]; rfl
  · rw [List.getElem?_eq_none (by rw [unpack_length, pack_length]; omega), List.getElem?_eq_none (by simp; omega)]

theorem putAll_prefix (V : Nat → Nat) (N : Nat → Int) (k n : Nat) (h : k ≤ n) : ∃ r, putAll V N n = putAll V N k ++ r := by
  induction n with
  | zero =>
    obtain rfl : k = 0 := by omega
    exact ⟨[], by simp⟩
  | succ n ih =>
    by_cases he : k = n + 1
    · subst he; exact ⟨[], by simp⟩
    · obtain ⟨r, hr⟩ := ih (by omega)
      exact ⟨r ++ bitsOf (V n) (wid (N n)), by rw [putAll, hr, List.append_assoc]⟩

theorem back_field (V : Nat → Nat) (N : Nat → Int) (k n : Nat) (h : k < n) :
    cut (bstr (pack (putAll V N n))) (putAll V N k).length (wid (N k)) = bitsOf (V k) (wid (N k)) := by
  obtain ⟨r, hr⟩ := putAll_prefix V N (k + 1) n h
  unfold cut
  rw [bl_bstr _ (pack_lt _), unpack_pack]
  generalize List.replicate (8 * (((putAll V N n).length + 7) / 8) - (putAll V N n).length) false = z
  rw [hr, putAll, List.append_assoc, List.append_assoc, List.drop_left, List.take_left' (bitsOf_length _ _)]

theorem back_rest (V : Nat → Nat) (N : Nat → Int) (n m : Nat) (hm : m = 8 * (((putAll V N n).length + 7) / 8) - (putAll V N n).length) : numOf (cut (bstr (pack (putAll V N n))) (putAll V N n).length m) = 0 := by
  unfold cut
  rw [bl_bstr _ (pack_lt _), unpack_pack, List.drop_left, ← hm, List.take_of_length_le (by simp)]
  clear hm
  induction m with
  | zero => rfl
  | succ m ih => rw [List.replicate_succ', numOf_snoc, ih]; rfl

theorem back_size (V : Nat → Nat) (N : Nat → Int) (n : Nat) : (bstr (pack (putAll V N n))).size = ((putAll V N n).length + 7) / 8 := by rw [bstr_size, pack_length]

theorem putAll_mono (V : Nat → Nat) (N : Nat → Int) (k n : Nat) (h : k ≤ n) : (putAll V N k).length ≤ (putAll V N n).length := by
  obtain ⟨r, hr⟩ := putAll_prefix V N k n h
  rw [hr, List.length_append]; omega

/-- What a field reads back as. -/
def wantOf (V : Nat) (N : Int) : Nat := V % 2 ^ wid N

theorem back_value (V : Nat) (N : Int) : numOf (bitsOf V (wid N)) = wantOf V N := numOf_bitsOf V (wid N)

theorem want_wide (V : Nat) (N : Int) (hV : V < 18446744073709551616) (hN : 64 ≤ N) : wantOf V N = V := by
  have : wid N = 64 := by unfold wid; omega
  rw [wantOf, this]
  exact Nat.mod_eq_of_lt hV

end Go.Proofs.Ytceidhjgdgnplaa
