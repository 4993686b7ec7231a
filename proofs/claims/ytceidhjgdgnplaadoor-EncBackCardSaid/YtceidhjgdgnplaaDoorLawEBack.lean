/-
  EncBack's walk: numbers, texts, frames and seals written one behind the other are read again, each ending where the next begins.
-/
import Derived.Test.YtceidhjgdgnplaaDoorWakb
import Derived.Test.YtceidhjgdgnplaaDoorBackp
namespace Go.Proofs.YtceidhjgdgnplaaDoor
set_option linter.unusedVariables false
set_option linter.unusedSimpArgs false
open Go.RowKit

/-- What EncBack writes. -/
def chain (u : Nat) (i : Int) (T : ByteArray) : ByteArray := bstr (uintB u) ++ bstr (uintB (zig i)) ++ textS T ++ frameS (T ++ { data := #[120] })

theorem chain_read (u : Nat) (hu : u < 18446744073709551616) (i : Int) (h1 : -9223372036854775808 ≤ i) (h2 : i ≤ 9223372036854775807) (T : ByteArray) (hT : T.size ≤ 1000) :
    ∃ n1 n2 n3 : Nat, (chain u i T).size ≤ 3000 ∧ tellU (readU (bl (chain u i T)) 0) = .tuple #[.int .u64 (u : Int), .int .i64 (n1 : Int), .int .i64 0] ∧
      tellI (readU (bl (chain u i T)) (n1 : Int)) = .tuple #[.int .i64 i, .int .i64 (n2 : Int), .int .i64 0] ∧
      tellT (chain u i T) (readU (bl (chain u i T)) (n2 : Int)) = .tuple #[.string T, .int .i64 (n3 : Int), .int .i64 0] ∧
      tellUF (chain u i T) (n3 : Int) = .tuple #[.string (T ++ { data := #[120] }), .int .i64 ((chain u i T).size : Int), .int .i64 0] := by
  have hz := zig_lt i h1 h2
  have u1 := uint_size u
  have u2 := uint_size (zig i)
  have u3 := uint_size T.size
  have hx : ({ data := #[120] } : ByteArray).size = 1 := rfl
  have hsz : (chain u i T).size = (bstr (uintB u)).size + (bstr (uintB (zig i))).size + ((bstr (uintB T.size)).size + T.size) + (T.size + 1 + 9) := by
    unfold chain textS
    rw [ByteArray.size_append, ByteArray.size_append, ByteArray.size_append, ByteArray.size_append, frameS_size, ByteArray.size_append, hx]
  have e1 : chain u i T = (bstr [] ++ bstr (uintB u)) ++ (bstr (uintB (zig i)) ++ textS T ++ frameS (T ++ { data := #[120] })) := by
    apply bl_inj
    unfold chain
    simp only [bl_append, List.append_assoc, bl_bstr [] (by simp), List.nil_append]
  have e2 : chain u i T = (bstr (uintB u) ++ bstr (uintB (zig i))) ++ (textS T ++ frameS (T ++ { data := #[120] })) := by
    apply bl_inj
    unfold chain
    simp only [bl_append, List.append_assoc]
  have e3 : chain u i T = ((bstr (uintB u) ++ bstr (uintB (zig i))) ++ bstr (uintB T.size)) ++ (T ++ frameS (T ++ { data := #[120] })) := by
    apply bl_inj
    unfold chain textS
    simp only [bl_append, List.append_assoc]
  have r1 := readU_str (bstr []) (bstr (uintB (zig i)) ++ textS T ++ frameS (T ++ { data := #[120] })) u hu
  rw [← e1] at r1
  have r2 := readU_str (bstr (uintB u)) (textS T ++ frameS (T ++ { data := #[120] })) (zig i) hz
  rw [← e2] at r2
  have r3 := readU_str (bstr (uintB u) ++ bstr (uintB (zig i))) (T ++ frameS (T ++ { data := #[120] })) T.size (by omega)
  rw [← e3] at r3
  have r4 := unframe_frame (bstr (uintB u) ++ bstr (uintB (zig i)) ++ textS T) (T ++ { data := #[120] }) (by rw [ByteArray.size_append, hx]; omega) (by rw [ByteArray.size_append, hx]; omega)
  rw [show bstr (uintB u) ++ bstr (uintB (zig i)) ++ textS T ++ frameS (T ++ { data := #[120] }) = chain u i T from rfl] at r4
  have s0 : (bstr []).size = 0 := rfl
  have s2 : (bstr (uintB u) ++ bstr (uintB (zig i))).size = (bstr (uintB u)).size + (bstr (uintB (zig i))).size := ByteArray.size_append ..
  have s3 : (bstr (uintB u) ++ bstr (uintB (zig i)) ++ textS T).size = (bstr (uintB u)).size + (bstr (uintB (zig i))).size + ((bstr (uintB T.size)).size + T.size) := by
    unfold textS
    rw [ByteArray.size_append, ByteArray.size_append, ByteArray.size_append]
  rw [s0] at r1
  rw [s2] at r3
  rw [s3] at r4
  have hext : (chain u i T).extract ((bstr (uintB u)).size + (bstr (uintB (zig i))).size + (bstr (uintB T.size)).size) ((bstr (uintB u)).size + (bstr (uintB (zig i))).size + (bstr (uintB T.size)).size + T.size) = T := by
    apply bl_inj
    have hl : (bl (bstr (uintB u) ++ bstr (uintB (zig i)) ++ bstr (uintB T.size))).length = (bstr (uintB u)).size + (bstr (uintB (zig i))).size + (bstr (uintB T.size)).size := by
      rw [bl_length, ByteArray.size_append, ByteArray.size_append]
    rw [bl_extract, Nat.add_sub_cancel_left, e3, bl_append _ (T ++ _), ← hl, List.drop_left, bl_append, ← bl_length T, List.take_left]
  refine ⟨(bstr (uintB u)).size, (bstr (uintB u)).size + (bstr (uintB (zig i))).size, (bstr (uintB u)).size + (bstr (uintB (zig i))).size + (bstr (uintB T.size)).size + T.size, by omega, ?_, ?_, ?_, ?_⟩
  · rw [show ((0 : Nat) : Int) = 0 from rfl] at r1
    rw [r1, Nat.zero_add]
    rfl
  · rw [r2]
    unfold tellI
    rw [if_pos rfl, unzig_zig i h1 h2]
  · rw [r3]
    unfold tellT
    rw [if_neg (by simp), if_neg (by simp only; omega)]
    simp only
    rw [hext]
  · rw [show (bstr (uintB u)).size + (bstr (uintB (zig i))).size + (bstr (uintB T.size)).size + T.size = (bstr (uintB u)).size + (bstr (uintB (zig i))).size + ((bstr (uintB T.size)).size + T.size) from by omega, r4, hsz]
    have this : (T ++ ({ data := #[120] } : ByteArray)).size = T.size + 1 := by rw [ByteArray.size_append, hx]
    rw [this, show (bstr (uintB u)).size + (bstr (uintB (zig i))).size + ((bstr (uintB T.size)).size + T.size) + 9 + (T.size + 1) = (bstr (uintB u)).size + (bstr (uintB (zig i))).size + ((bstr (uintB T.size)).size + T.size) + (T.size + 1 + 9) from by omega]

set_option maxRecDepth 100000 in
set_option maxHeartbeats 4000000 in
theorem eback_walk (u : Nat) (hu : u < 18446744073709551616) (i : Int) (h1 : -9223372036854775808 ≤ i) (h2 : i ≤ 9223372036854775807) (t : ByteArray) (ht : t.size ≤ 140737488355328) (w : World) (hN : NibAt w) :
    Calls Tryd.prog 11 #[.int .u64 (u : Int), .int .i64 i, .string t] w fun e w' => e = .returned (.bool true) ∧ Frm [] w w' := by
  obtain ⟨m, hm⟩ : ∃ m, m = min t.size 1000 := ⟨_, rfl⟩
  have hmt : m ≤ t.size := by omega
  have hm1 : m ≤ 1000 := by omega
  have hmin : ∀ W, (Builtin.min_ #[3, 3] 3 #[.int .i64 (t.size : Int), .int .i64 1000]).run Tryd.prog W = .ok (.int .i64 (m : Int)) W := fun W => by
    rw [run_min_int2]; congr 2; split <;> omega
  have hsl := slice_to (P := Tryd.prog) Tryd.underlying9 t m (m : Int) rfl hmt
  have hTz : (t.extract 0 m).size ≤ 1000 := by rw [ByteArray.size_extract]; omega
  clear hm
  generalize t.extract 0 m = T at hsl hTz
  have hx : ({ data := #[120] } : ByteArray).size = 1 := rfl
  have hpz : (T ++ { data := #[120] }).size = T.size + 1 := by rw [ByteArray.size_append, hx]
  have htF : tellF (T ++ { data := #[120] }) = .tuple #[.string (frameS (T ++ { data := #[120] })), .int .i64 0] := by
    unfold tellF
    rw [if_neg (by omega), if_neg (by omega)]
  have hframe := fun W h => frame_any (T ++ { data := #[120] }) (by omega) W h
  rw [htF] at hframe
  have hFz : (frameS (T ++ { data := #[120] })).size ≤ 1010 := by rw [frameS_size]; omega
  obtain ⟨n1, n2, n3, hsz, q1, q2, q3, q4⟩ := chain_read u hu i h1 h2 T hTz
  have hch : chain u i T = bstr (uintB u) ++ bstr (uintB (zig i)) ++ textS T ++ frameS (T ++ { data := #[120] }) := rfl
  have hXz : (textS T).size ≤ 1010 := by
    have := uint_size T.size
    unfold textS
    rw [ByteArray.size_append]; omega
  have u1 := uint_size u
  have u2 := uint_size (zig i)
  have huint := uint_any u _ rfl hu
  have hint := int_any i h1 h2
  have htext := text_any T (by omega)
  generalize chain u i T = s at hsz q1 q2 q3 q4 hch
  have c1 := readuint_any s 0 (by omega)
  have c2 := readint_any s (n1 : Int) (by omega)
  have c3 := readtext_any s (n2 : Int) (by omega)
  have c4 := unframe_any s (n3 : Int) (by omega)
  have c5 := seal_any s (by omega)
  have c6 := unseal_any (sealS s) (by rw [sealS_size]; omega)
  rw [q1] at c1
  rw [q2] at c2
  rw [q3] at c3
  rw [q4] at c4
  rw [unseal_seal] at c6
  generalize frameS (T ++ { data := #[120] }) = F at hframe hFz hch
  generalize bstr (uintB u) = U at u1 huint hch
  generalize bstr (uintB (zig i)) = I at u2 hint hch
  generalize textS T = X at hXz htext hch
  generalize sealS s = Z at c5 c6
  have Hch := hide hch
  clear q1 q2 q3 q4 htF hch
  go_enter Tryd.func11, Tryd.ntmps11
  go_wp2_with fail
  refine (wakb_any _ hN).mono ?_
  rintro e w1 ⟨rfl, hf1⟩
  go_wp2_with fail
  refine (hframe _ (hN.frm hf1)).mono ?_
  rintro e w2 ⟨rfl, hf2⟩
  have f2 := hf1.trans hf2 (by simp)
  go_wp2_with fail
  refine (huint _).mono ?_
  rintro e w3 ⟨rfl, hf3⟩
  have f3 := f2.trans hf3 (by simp)
  go_wp2_with fail
  refine (hint _).mono ?_
  rintro e w4 ⟨rfl, hf4⟩
  have f4 := f3.trans hf4 (by simp)
  go_wp2_with fail
  refine (htext _).mono ?_
  rintro e w5 ⟨rfl, hf5⟩
  have f5 := f4.trans hf5 (by simp)
  have hz1 : (U ++ I).size ≤ 20 := by rw [ByteArray.size_append]; omega
  have hz2 : (U ++ I ++ X).size ≤ 1030 := by rw [ByteArray.size_append]; omega
  go_wp2_with fail
  rw [← Hch.out]
  refine (c1 _).mono ?_
  rintro e w' ⟨rfl, rfl⟩
  go_wp2_with fail
  refine (c2 _).mono ?_
  rintro e w' ⟨rfl, rfl⟩
  go_wp2_with fail
  refine (c3 _).mono ?_
  rintro e w' ⟨rfl, rfl⟩
  go_wp2_with fail
  refine (c4 _ (hN.frm f5)).mono ?_
  rintro e w6 ⟨rfl, hf6⟩
  have f6 := f5.trans hf6 (by simp)
  go_wp2_with fail
  refine (c5 _ (hN.frm f6)).mono ?_
  rintro e w7 ⟨rfl, hf7⟩
  have f7 := f6.trans hf7 (by simp)
  go_wp2_with fail
  refine (c6 _ (hN.frm f7)).mono ?_
  rintro e w8 ⟨rfl, hf8⟩
  have f8 := f7.trans hf8 (by simp)
  go_wp2_with fail
  go_ret
  exact ⟨rfl, f8⟩

end Go.Proofs.YtceidhjgdgnplaaDoor
