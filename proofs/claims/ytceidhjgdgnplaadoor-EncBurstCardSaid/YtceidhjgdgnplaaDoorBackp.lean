/-
  Plain laws: what is framed is unframed, what is sealed is unsealed.
  Conditions: none.
-/
import Derived.Test.YtceidhjgdgnplaaDoorUnfr
import Derived.Test.YtceidhjgdgnplaaDoorVarb
namespace Go.Proofs.YtceidhjgdgnplaaDoor
set_option linter.unusedVariables false
set_option linter.unusedSimpArgs false
open Go.RowKit

theorem fourB_length (v : Nat) : (fourB v).length = 4 := rfl
theorem fourB_byte (v : Nat) : ∀ x ∈ fourB v, x < 256 := by
  intro x hx
  simp only [fourB, List.mem_cons, List.not_mem_nil, or_false] at hx
  rcases hx with rfl | rfl | rfl | rfl <;> omega

theorem numAt_four (a r : List Nat) (v : Nat) (hv : v < 4294967296) : numAt (a ++ (fourB v ++ r)) a.length = v := by
  rw [show numAt (a ++ (fourB v ++ r)) a.length = numAt ((a ++ (fourB v ++ r)).drop a.length) 0 from by rw [numAt_drop]; rfl, List.drop_left]
  show v % 256 + v / 256 % 256 * 256 + v / 65536 % 256 * 65536 + v / 16777216 % 256 * 16777216 = v
  omega

theorem bl_frameS (p : ByteArray) : bl (frameS p) = fourB p.size ++ (bl p ++ (fourB (crcOf (bl p)) ++ [1])) := by
  unfold frameS
  rw [bl_append, bl_append, bl_append, bl_bstr _ (fourB_byte _), bl_bstr _ (fourB_byte _), bl_bstr [1] (by decide)]
  simp only [List.append_assoc]
theorem frameS_size (p : ByteArray) : (frameS p).size = p.size + 9 := by
  rw [← bl_length, bl_frameS]
  simp only [List.length_append, fourB_length, bl_length, List.length_cons, List.length_nil]
  omega
theorem sealS_size (p : ByteArray) : (sealS p).size = p.size + 4 := by
  unfold sealS
  rw [ByteArray.size_append, fourB_size]
theorem bl_sealS (p : ByteArray) : bl (sealS p) = bl p ++ (fourB (crcOf (bl p)) ++ []) := by
  unfold sealS
  rw [bl_append, bl_bstr _ (fourB_byte _), List.append_nil]

/-- What is sealed is unsealed. -/
theorem unseal_seal (p : ByteArray) : tellS (sealS p) = .tuple #[.string p, .int .i64 0] := by
  have hz := sealS_size p
  have hb := bl_sealS p
  have hn : numAt (bl (sealS p)) p.size = crcOf (bl p) := by
    rw [hb, ← bl_length p]
    exact numAt_four _ _ _ (crcOf_bl_lt p)
  have hx : (sealS p).extract 0 p.size = p := by
    apply bl_inj
    rw [bl_upto, hb, ← bl_length p, List.take_left]
  unfold tellS
  rw [if_neg (by omega), hz, Nat.add_sub_cancel, hn, hb, ← bl_length p, List.take_left, if_pos rfl, bl_length, hx]

/-- What is framed is unframed. -/
theorem unframe_frame (a p : ByteArray) (h0 : 0 < p.size) (h1 : p.size ≤ 1048576) : tellUF (a ++ frameS p) (a.size : Int) = .tuple #[.string p, .int .i64 ((a.size + 9 + p.size : Nat) : Int), .int .i64 0] := by
  have hz := frameS_size p
  have hb : bl (a ++ frameS p) = bl a ++ (fourB p.size ++ (bl p ++ (fourB (crcOf (bl p)) ++ [1]))) := by rw [bl_append, bl_frameS]
  have hn : numAt (bl (a ++ frameS p)) a.size = p.size := by
    rw [hb, ← bl_length a]
    exact numAt_four _ _ _ (by omega)
  have hpre : bl (a ++ frameS p) = (bl a ++ fourB p.size) ++ (bl p ++ (fourB (crcOf (bl p)) ++ [1])) := by rw [hb]; simp only [List.append_assoc]
  have hpre2 : bl (a ++ frameS p) = (bl a ++ fourB p.size ++ bl p) ++ (fourB (crcOf (bl p)) ++ [1]) := by rw [hb]; simp only [List.append_assoc]
  have hl1 : (bl a ++ fourB p.size).length = a.size + 4 := by rw [List.length_append, bl_length, fourB_length]
  have hl2 : (bl a ++ fourB p.size ++ bl p).length = a.size + 4 + p.size := by rw [List.length_append, hl1, bl_length]
  have hn2 : numAt (bl (a ++ frameS p)) (a.size + 4 + p.size) = crcOf (bl p) := by
    rw [hpre2, ← hl2]
    exact numAt_four _ _ _ (crcOf_bl_lt p)
  have hone : (bl (a ++ frameS p)).getD (a.size + 8 + p.size) 0 = 1 := by
    rw [hpre2, List.getD_eq_getElem?_getD, List.getElem?_append_right (by rw [hl2]; omega), hl2, show a.size + 8 + p.size - (a.size + 4 + p.size) = 4 from by omega]
    rfl
  have hx : (a ++ frameS p).extract (a.size + 4) (a.size + 4 + p.size) = p := by
    apply bl_inj
    rw [bl_extract, Nat.add_sub_cancel_left, hpre, ← hl1, List.drop_left, ← bl_length p, List.take_left]
  unfold tellUF
  rw [if_neg (by rw [ByteArray.size_append]; omega), Int.toNat_natCast]
  unfold tellFat
  rw [hn, hn2, hx, hone, if_neg (by omega), if_neg (by rw [ByteArray.size_append]; omega), if_neg (by simp), if_neg (by simp)]

/-- A number that is written is read again, as strings. -/
theorem readU_str (p q : ByteArray) (v : Nat) (hv : v < 18446744073709551616) : readU (bl (p ++ bstr (uintB v) ++ q)) (p.size : Int) = (v, p.size + (bstr (uintB v)).size, 0) := by
  rw [bl_append, bl_append, bl_bstr _ (uintB_lt v), ← bl_length p, readU_uint _ _ v hv, bstr_size]

end Go.Proofs.YtceidhjgdgnplaaDoor
