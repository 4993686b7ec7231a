/-
  The contracts of enc.Uint and of the document's Uint: both give the varint of the number.
-/
import Derived.Test.YtdnllmibchmnnaaDoorBld
import Derived.Test.YtdnllmibchmnnaaDoorVar
namespace Go.Proofs.YtdnllmibchmnnaaDoor
set_option linter.unusedVariables false
set_option linter.unusedSimpArgs false
open Go.RowKit

/-- One builder, new since w. -/
structure OneB (w wr : World) (b : Nat) (p v : Value) (bs : List Nat) : Prop where
  bld : BldAt wr b p v bs
  g0 : w.heap.size ≤ b
  fv : Fresh w.heap.size v
  frm : Frm [] w wr

section
variable {w wr w1 : World} {b : Nat} {p v p1 v1 : Value} {bs bs1 : List Nat}
theorem OneB.quiet (h : OneB w wr b p v bs) (hf : Frm [] wr w1) : OneB w w1 b p v bs := ⟨h.bld.quiet hf, h.g0, h.fv, h.frm.trans hf (by simp)⟩
theorem OneB.put (h : OneB w wr b p v bs) (hb : BldAt w1 b p1 v1 bs1) (hf : Frm (b :: v.ownBlock.toList) wr w1) (hg : Grew wr v v1) : OneB w w1 b p1 v1 bs1 :=
  ⟨hb, h.g0, h.fv.grew hg h.frm.size, h.frm.trans hf (h.fv.foot h.g0)⟩
theorem OneB.new (w : World) : OneB w (w.alloc (.cells #[.pointer none, .slice none 0 0] 91)) w.heap.size (.pointer none) (.slice none 0 0) [] :=
  ⟨bld_new w, Nat.le_refl _, Fresh.nil _, (Frm.refl _ _).alloc _⟩
end

theorem low_byte (v : Nat) : bits BinOp.or IntKind.u8 (IntKind.u8.wrap (v : Int)) 128 = ((v % 128 + 128 : Nat) : Int) := by
  have e : IntKind.u8.wrap (v : Int) = ((v % 256 : Nat) : Int) := by rw [IntKind.wrap_u8']; omega
  rw [e, show (128 : Int) = ((128 : Nat) : Int) from rfl, u8_or_nat (v % 256) 128 (Nat.mod_lt _ (by decide)) (by decide)]
  have key : ∀ x : Fin 256, x.val ||| 128 = x.val % 128 + 128 := by decide +kernel
  have := key ⟨v % 256, Nat.mod_lt _ (by decide)⟩
  simp only at this
  rw [this]
  congr 1
  omega

theorem uintN_more (k v : Nat) (h : 127 < v) : uintN (k + 1) v = (v % 128 + 128) :: uintN k (v / 128) := by simp [uintN, h]
theorem uintN_last (k v : Nat) (h : ¬ 127 < v) : uintN (k + 1) v = [v] := by simp [uintN, h]

theorem pow_step (k v : Nat) (h : v < 128 ^ (k + 1)) : v / 128 < 128 ^ k := by
  rw [Nat.pow_succ] at h
  omega

set_option maxRecDepth 100000 in
set_option maxHeartbeats 1000000 in
theorem uint_any (v : Nat) (V : Int) (hV : V = (v : Int)) (hv : v < 18446744073709551616) (w : World) :
    Calls Tryd.prog 30 #[.int .u64 V] w fun e w' => e = .returned (.string (bstr (uintB v))) ∧ Frm [] w w' := by
  subst hV
  have h10 : v < 128 ^ 10 := Nat.lt_trans hv (by decide)
  go_enter Tryd.func30, Tryd.ntmps30
  go_wp2
  go_loopw [0] (fun x wr => ∃ (k v' : Nat) (p vv : Value) (bs : List Nat), k ≤ 9 ∧ x = .int .u64 (v' : Int) ∧ v' < 128 ^ (k + 1) ∧ v' < 18446744073709551616 ∧ bs ++ uintN (k + 1) v' = uintN 10 v ∧ OneB w wr w.heap.size p vv bs)
    (fun x _ => (intOf x).toNat)
  case atStart => exact ⟨9, v, _, _, [], by omega, rfl, h10, hv, rfl, OneB.new w⟩
  case round =>
    obtain ⟨k, v', p, vv, bs, hk, rfl, hp, hv', hall, hB⟩ := hrel
    have hlen := congrArg List.length hall
    rw [List.length_append] at hlen
    have hle := uintN_le 10 v
    have hbl : bs.length ≤ 10 := by omega
    have Hall := hide hall
    have Hp := hide hp
    clear hall hlen hle hp
    by_cases hb : 127 < v'
    · go_wp2_with fail
      refine (bbyte_any (v' % 128 + 128) _ (low_byte v') _ hB.bld (by omega)).mono ?_
      rintro e w1 ⟨rfl, vv1, hb1, hf1, hg1⟩
      have hB1 := hB.put hb1 hf1 hg1
      go_wp2_with fail
      have hk0 : 0 < k := by
        rcases Nat.eq_zero_or_pos k with h0 | h0
        · subst h0; have := Hp.out; simp at this; omega
        · exact h0
      go_roundw
      case measure => simp [intOf]; omega
      case rel =>
        refine ⟨k - 1, v' / 128, _, vv1, bs ++ [v' % 128 + 128], by omega, by go_num, ?_, by omega, ?_, hB1⟩
        · rw [show k - 1 + 1 = k from by omega]; exact pow_step k v' Hp.out
        · rw [show k - 1 + 1 = k from by omega, ← Hall.out, uintN_more k v' hb, List.append_assoc]; rfl
    · go_wp2_with fail
      refine (bbyte_any v' _ rfl _ hB.bld (by omega)).mono ?_
      rintro e w1 ⟨rfl, vv1, hb1, hf1, hg1⟩
      have hB1 := hB.put hb1 hf1 hg1
      have hfin := Hall.out
      rw [uintN_last k v' hb] at hfin
      rw [hfin] at hB1
      go_wp2_with fail
      refine (bstring_any _ hB1.bld (uintN_pos 9 v) (uintN_lt 10 v)).mono ?_
      rintro e w2 ⟨rfl, hf2⟩
      have hfr := hB1.frm.trans hf2 hB1.fv.row
      clear hfin
      go_wp2_with fail
      go_ret
      exact ⟨rfl, hfr⟩

/-- One row of bytes, new since w. -/
structure OneL (w wr : World) (v : Value) (bs : List Nat) : Prop where
  row : wr.ownsRow 0 5 1 v bs.length (u8s bs)
  fv : Fresh w.heap.size v
  frm : Frm [] w wr

section
variable {w wr w1 : World} {v v1 : Value} {bs bs1 : List Nat}
theorem OneL.quiet (h : OneL w wr v bs) (hf : Frm [] wr w1) : OneL w w1 v bs := ⟨own_frm h.row hf (by simp), h.fv, h.frm.trans hf (by simp)⟩
theorem OneL.snoc {r cap x : Nat} (h : OneL w wr v bs) (hr : w1.ownsRow 0 5 1 (.slice (some ⟨r, 0, none⟩) (bs.length + 1) cap) (bs.length + 1) (u8s bs ++ [.int .u8 (x : Int)])) (hf : Frm v.ownBlock.toList wr w1) (hat : v.ownBlock = some r ∨ wr.heap.size ≤ r) :
    OneL w w1 (.slice (some ⟨r, 0, none⟩) (bs.length + 1) cap) (bs ++ [x]) := by
  rw [u8s_snoc] at hr
  refine ⟨by rw [List.length_append, List.length_singleton]; exact hr, ?_, h.frm.trans hf h.fv.row⟩
  exact h.fv.grew (Grew.of_at hat) h.frm.size
theorem OneL.made (w : World) : OneL w (w.alloc (.cells #[] 5)) (.slice (some ⟨w.heap.size, 0, none⟩) 0 0) [] :=
  ⟨World.ownsRow_made w #[] 0 (Nat.zero_le _) (by unfold maxLen; omega) rfl, fun k hk => by simp [Value.ownBlock] at hk; omega, (Frm.refl _ _).alloc _⟩
end

theorem ref_low (v : Nat) : IntKind.u8.wrap (IntKind.u8.wrap ((v : Int) % 128) + 128) = ((v % 128 + 128 : Nat) : Int) := by
  rw [IntKind.wrap_u8', IntKind.wrap_u8']; omega

set_option maxRecDepth 100000 in
set_option maxHeartbeats 1000000 in
theorem ruint_any (v : Nat) (V : Int) (hV : V = (v : Int)) (hv : v < 18446744073709551616) (w : World) :
    Calls Tryd.prog 32 #[.int .u64 V] w fun e w' => e = .returned (.string (bstr (uintB v))) ∧ Frm [] w w' := by
  subst hV
  obtain ⟨i0, hi0, hz0, hz1, hz2⟩ := info_parts u8info
  have h10 : v < 128 ^ 10 := Nat.lt_trans hv (by decide)
  go_enter Tryd.func32, Tryd.ntmps32
  go_wp2
  go_loopw [0, 3] (fun x lv wr => ∃ (k v' : Nat) (bs : List Nat), k ≤ 9 ∧ x = .int .u64 (v' : Int) ∧ v' < 128 ^ (k + 1) ∧ v' < 18446744073709551616 ∧ bs ++ uintN (k + 1) v' = uintN 10 v ∧ OneL w wr lv bs)
    (fun x _ _ => (intOf x).toNat)
  case atStart => exact ⟨9, v, [], by omega, rfl, h10, hv, rfl, OneL.made w⟩
  case round =>
    obtain ⟨k, v', bs, hk, rfl, hp, hv', hall, hB⟩ := hrel
    have hlen := congrArg List.length hall
    rw [List.length_append] at hlen
    have hle := uintN_le 10 v
    have hbl : bs.length ≤ 10 := by omega
    have Hall := hide hall
    have Hp := hide hp
    clear hall hlen hle hp
    have hrow := hB.row
    by_cases hb : 127 < v'
    · have hk0 : 0 < k := by
        rcases Nat.eq_zero_or_pos k with h0 | h0
        · subst h0; have := Hp.out; simp at this; omega
        · exact h0
      go_wp2_with (at_builtin; refine wp_append1 rfl (.tmp 7) (.tmp 12) 40 5 rfl Tryd.underlying40 hi0 hz0 hz1 hz2 rfl u3 _ _ rfl hrow _ 1 rfl rfl (by unfold maxLen; omega) (by omega) ?_; intro r cap w1 hown1 hf1 hat1)
      go_roundw
      case measure => simp [intOf]; omega
      case rel =>
        rw [show ((v' : Int) % 128 + 128) = ((v' % 128 + 128 : Nat) : Int) from by omega] at hown1
        refine ⟨k - 1, v' / 128, bs ++ [v' % 128 + 128], by omega, by go_num, ?_, by omega, ?_, hB.snoc hown1 hf1 hat1⟩
        · rw [show k - 1 + 1 = k from by omega]; exact pow_step k v' Hp.out
        · rw [show k - 1 + 1 = k from by omega, ← Hall.out, uintN_more k v' hb, List.append_assoc]; rfl
    · go_wp2_with (at_builtin; refine wp_append1 rfl (.tmp 16) (.tmp 19) 40 5 rfl Tryd.underlying40 hi0 hz0 hz1 hz2 rfl u3 _ _ rfl hrow _ 1 rfl rfl (by unfold maxLen; omega) (by omega) ?_; intro r cap w1 hown1 hf1 hat1; have hcv := own_string (dst := 9) (l := bs ++ [v']) Tryd.underlying40 Tryd.underlying5 Tryd.underlying9 (by rw [← u8s_snoc]; exact hown1))
      go_ret
      have hfin := Hall.out
      rw [uintN_last k v' hb] at hfin
      exact ⟨by rw [uintB, ← hfin]; rfl, (hB.snoc hown1 hf1 hat1).frm⟩

end Go.Proofs.YtdnllmibchmnnaaDoor
