/-
  What Unseal and Unframe tell of a sealed text of which some of 32 neighbouring bits were turned.
  Conditions: none.
-/
import Derived.Test.YtceidhjgdgnplaaDoorBackp
import Derived.Test.YtceidhjgdgnplaaDoorTurn
namespace Go.Proofs.YtceidhjgdgnplaaDoor
set_option linter.unusedVariables false
set_option linter.unusedSimpArgs false
open Go.RowKit

/-- The sealed text with the bits turned. -/
def turnS (p : ByteArray) (a M : Nat) : ByteArray := bstr (turnL (bl (sealS p)) a M 32).1
theorem turnS_bl (p : ByteArray) (a M : Nat) : bl (turnS p a M) = (turnL (bl (sealS p)) a M 32).1 := bl_bstr _ (turnL_spec _ (bl_lt _) a M 32).2.1
theorem turnS_size (p : ByteArray) (a M : Nat) : (turnS p a M).size = p.size + 4 := by
  rw [← bl_length, turnS_bl, (turnL_spec _ (bl_lt _) a M 32).1, bl_length, sealS_size]

theorem burst_seal (p : ByteArray) (a M : Nat) (ha : a ≤ 8 * (p.size + 4)) (hany : (turnL (bl (sealS p)) a M 32).2 = true) : crcOf ((bl (turnS p a M)).take p.size) ≠ numAt (bl (turnS p a M)) p.size := by
  obtain ⟨h1, h2, B, hB, h3, h4⟩ := turnL_spec (bl (sealS p)) (bl_lt _) a M 32
  have hl : (bl (sealS p)).length = p.size + 4 := by rw [bl_length, sealS_size]
  have hv : crcOf ((bl (sealS p)).take p.size) = numAt (bl (sealS p)) p.size := by
    rw [bl_sealS, ← bl_length p, List.take_left]
    exact (numAt_four _ _ _ (crcOf_bl_lt p)).symm
  rw [turnS_bl]
  exact burst (bl (sealS p)) _ p.size a B (bl_lt _) h2 hl h1 hv hB (h4 hany) (by omega) h3

theorem tellS_burst (p : ByteArray) (a M : Nat) (ha : a ≤ 8 * (p.size + 4)) (hany : (turnL (bl (sealS p)) a M 32).2 = true) : tellS (turnS p a M) = .tuple #[.string { data := #[] }, .int .i64 22] := by
  have hz := turnS_size p a M
  unfold tellS
  rw [if_neg (by omega), hz, Nat.add_sub_cancel, if_neg (burst_seal p a M ha hany)]
  rfl

theorem tellUF_burst (p : ByteArray) (h0 : 0 < p.size) (h1 : p.size ≤ 1048576) (a M : Nat) (ha : a ≤ 8 * (p.size + 4)) (hany : (turnL (bl (sealS p)) a M 32).2 = true) :
    tellUF (bstr (fourB p.size) ++ turnS p a M ++ bstr [1]) 0 = .tuple #[.string { data := #[] }, .int .i64 0, .int .i64 22] := by
  have hz := turnS_size p a M
  have hb := burst_seal p a M ha hany
  generalize turnS p a M = t at hz hb
  have hbl : bl (bstr (fourB p.size) ++ t ++ bstr [1]) = [] ++ (fourB p.size ++ (bl t ++ [1])) := by
    rw [bl_append, bl_append, bl_bstr _ (fourB_byte _), bl_bstr [1] (by decide), List.append_assoc, List.nil_append]
  have hn : numAt (bl (bstr (fourB p.size) ++ t ++ bstr [1])) 0 = p.size := by
    rw [hbl]
    exact numAt_four [] _ _ (by omega)
  have hl4 : (fourB p.size).length = 4 := rfl
  have htl : (bl t).length = p.size + 4 := by rw [bl_length, hz]
  have hn2 : numAt (bl (bstr (fourB p.size) ++ t ++ bstr [1])) (0 + 4 + p.size) = numAt (bl t) p.size := by
    rw [hbl, List.nil_append, ← numAt_drop _ (0 + 4) p.size, show List.drop (0 + 4) (fourB p.size ++ (bl t ++ [1])) = bl t ++ [1] from rfl]
    simp only [numAt, List.getD_eq_getElem?_getD]
    rw [List.getElem?_append_left (by omega), List.getElem?_append_left (by omega), List.getElem?_append_left (by omega), List.getElem?_append_left (by omega)]
  have hone : (bl (bstr (fourB p.size) ++ t ++ bstr [1])).getD (0 + 8 + p.size) 0 = 1 := by
    rw [hbl, List.nil_append, List.getD_eq_getElem?_getD, List.getElem?_append_right (by omega), List.getElem?_append_right (by omega), hl4, htl, show 0 + 8 + p.size - 4 - (p.size + 4) = 0 from by omega]
    rfl
  have hx : bl ((bstr (fourB p.size) ++ t ++ bstr [1]).extract (0 + 4) (0 + 4 + p.size)) = (bl t).take p.size := by
    rw [bl_extract, Nat.add_sub_cancel_left, hbl, List.nil_append, show List.drop (0 + 4) (fourB p.size ++ (bl t ++ [1])) = bl t ++ [1] from rfl, List.take_append_of_le_length (by omega)]
  have hsz : (bstr (fourB p.size) ++ t ++ bstr [1]).size = p.size + 9 := by
    rw [ByteArray.size_append, ByteArray.size_append, fourB_size, hz, bstr_size]
    simp only [List.length_cons, List.length_nil]
    omega
  unfold tellUF
  rw [if_neg (by omega), show (0 : Int).toNat = 0 from rfl]
  unfold tellFat
  rw [hn, hn2, hx, hone, if_neg (by omega), if_neg (by omega), if_neg (by simp), if_pos hb]
  rfl

/-- A frame, cut. -/
theorem frame_head (p : ByteArray) : (frameS p).extract 0 4 = bstr (fourB p.size) := by
  apply bl_inj
  rw [bl_upto, bl_frameS, bl_bstr _ (fourB_byte _)]
  rfl
theorem frame_mid (p : ByteArray) : (frameS p).extract 4 (4 + (p.size + 4)) = sealS p := by
  apply bl_inj
  rw [bl_extract, Nat.add_sub_cancel_left, bl_frameS, bl_sealS, List.append_nil, show List.drop 4 (fourB p.size ++ (bl p ++ (fourB (crcOf (bl p)) ++ [1]))) = bl p ++ (fourB (crcOf (bl p)) ++ [1]) from rfl, ← List.append_assoc]
  rw [List.take_append_of_le_length (by rw [List.length_append, bl_length, fourB_length]; omega), List.take_of_length_le (by rw [List.length_append, bl_length, fourB_length]; omega)]
theorem frame_end (p : ByteArray) : (frameS p).extract (p.size + 8) (frameS p).size = bstr [1] := by
  apply bl_inj
  have e : bl (frameS p) = (fourB p.size ++ bl p ++ fourB (crcOf (bl p))) ++ [1] := by rw [bl_frameS]; simp only [List.append_assoc]
  have hl : (fourB p.size ++ bl p ++ fourB (crcOf (bl p))).length = p.size + 8 := by
    rw [List.length_append, List.length_append, bl_length, fourB_length, fourB_length]; omega
  rw [bl_from, e, ← hl, List.drop_left, bl_bstr [1] (by decide)]

end Go.Proofs.YtceidhjgdgnplaaDoor
