/-
  The contracts of the document's answer for layer 1: Number, Bytes, List.
-/
import Derived.Test.YtdnllmibchmnnaaDoorRefa
namespace Go.Proofs.YtdnllmibchmnnaaDoor
set_option linter.unusedVariables false
set_option linter.unusedSimpArgs false
open Go.RowKit

theorem bitrow_cell {w : World} {r cap : Nat} {l : List Bool} {i : Nat} (h : BitRow w (.slice (some ⟨r, 0, none⟩) l.length cap) l) (hi : i < l.length) :
    w.cell? ⟨r, i, none⟩ = some (.int .u8 (((l.getD i false).toNat : Nat) : Int)) := by
  have h' : w.ownsRow 0 5 1 (.slice (some ⟨r, 0, none⟩) l.length cap) l.length (u8s (b2n l)) := h
  rw [h'.cellAt i (by omega), u8s_get _ _ (by rw [b2n_length]; exact hi), b2n_get l i hi]

theorem bool_nat (b : Bool) : b.toNat ≤ 1 := by cases b <;> decide

theorem num_take (l : List Bool) (a j : Nat) (h : a + j < l.length) : numOf ((l.drop a).take (j + 1)) = numOf ((l.drop a).take j) * 2 + (l.getD (a + j) false).toNat := by
  have hl : j < (l.drop a).length := by rw [List.length_drop]; omega
  rw [List.take_succ_eq_append_getElem hl, numOf_snoc, List.getElem_drop]
  simp [List.getD, h]

theorem num_take_lt (l : List Bool) (a j : Nat) (hj : j < 64) : numOf ((l.drop a).take j) * 2 + 1 < 18446744073709551616 := by
  have h1 := numOf_lt ((l.drop a).take j)
  have h2 : ((l.drop a).take j).length ≤ j := List.length_take_le _ _
  have h3 : 2 ^ ((l.drop a).take j).length ≤ 2 ^ 63 := Nat.pow_le_pow_right (by decide) (by omega)
  have h4 : (2 : Nat) ^ 63 = 9223372036854775808 := by decide
  omega

set_option maxRecDepth 100000 in
set_option maxHeartbeats 1000000 in
theorem rnumber_any (v : Value) (l : List Bool) (a n : Nat) (hn : n ≤ 64) (ha : a + n ≤ l.length) (hl : l.length ≤ 140737488355328) (w : World) (hw : BitRow w v l) :
    Calls Tryd.prog 52 #[v, .int .i64 (a : Int), .int .i64 (n : Int)] w fun e w' => e = .returned (.int .u64 ((numOf ((l.drop a).take n) : Nat) : Int)) ∧ w = w' := by
  go_enter Tryd.func52, Tryd.ntmps52
  go_wp2
  go_loop [7, 8] (fun v i => ∃ j : Nat, j ≤ n ∧ i = .int .i64 j ∧ v = .int .u64 ((numOf ((l.drop a).take j) : Nat) : Int)) (fun _ i => n - (intOf i).toNat)
  case atStart => exact ⟨0, Nat.zero_le _, rfl, by simp [numOf]⟩
  case round =>
    obtain ⟨j, hj, rfl, rfl⟩ := hrel
    by_cases hlt : j < n
    · obtain ⟨r, cap, cur, rfl, _⟩ := own_form (show w.ownsRow 0 5 1 v l.length (u8s (b2n l)) from hw) (by omega)
      have hc := bitrow_cell hw (i := a + j) (by omega)
      have hi : a + j < l.length := by omega
      have hb := bool_nat (l.getD (a + j) false)
      have hN := num_take_lt l a j (by omega)
      have hs := num_take l a j hi
      generalize hB : (l.getD (a + j) false).toNat = B at hc hb hs
      generalize numOf ((l.drop a).take j) = N at hN hs ⊢
      have Hs := hide hs
      clear hs hB
      go_wp2
      go_round
      case measure => simp [intOf]; omega
      case rel =>
        refine ⟨j + 1, by omega, by go_num, ?_⟩
        rw [Hs.out]
        go_num
    · go_wp2
      obtain rfl : j = n := by omega
      go_ret
      exact ⟨rfl, rfl⟩

/-- The first j bits from the place i on, as the reference makes a byte of them. -/
def partByte (l : List Bool) (i : Nat) : Nat → Nat
  | 0 => 0
  | j + 1 => partByte l i j * 2 + (l.getD (i + j) false).toNat

theorem partByte_eight (l : List Bool) (i : Nat) : partByte l i 8 = byteOf (l.drop i) := by
  simp only [partByte, byteOf, getD_drop, Nat.add_zero]
  omega

theorem partByte_lt (l : List Bool) (i j : Nat) : partByte l i j < 2 ^ j := by
  induction j with
  | zero => simp [partByte]
  | succ j ih =>
    have := bool_nat (l.getD (i + j) false)
    rw [partByte, Nat.pow_succ]; omega

theorem partByte_small (l : List Bool) (i j : Nat) (hj : j < 8) : partByte l i j * 2 + 1 < 256 := by
  have h1 := partByte_lt l i j
  have h2 : 2 ^ j ≤ 2 ^ 7 := Nat.pow_le_pow_right (by decide) (by omega)
  have h3 : (2 : Nat) ^ 7 = 128 := by decide
  omega

theorem packN_snoc (n : Nat) (l : List Bool) : packN (n + 1) l = packN n l ++ [byteOf (l.drop (8 * n))] := by
  apply List.ext_getElem?
  intro i
  rw [List.getElem?_append, packN_length, packN_get, packN_get]
  by_cases hi : i < n
  · rw [if_pos hi, if_pos hi, if_pos (show i < n + 1 by omega)]
  · rw [if_neg hi]
    by_cases he : i = n
    · subst he; simp
    · rw [if_neg (show ¬ i < n + 1 by omega), List.getElem?_eq_none (by simp; omega)]

set_option maxRecDepth 100000 in
set_option maxHeartbeats 1000000 in
theorem rbytes_any (v : Value) (l : List Bool) (hl : l.length ≤ 140737488355328) (w : World) (hw : BitRow w v l) :
    Calls Tryd.prog 36 #[v] w fun e w' => e = .returned (.string (bstr (pack l))) ∧ Frm [] w w' := by
  obtain ⟨i0, hi0, hz0, hz1, hz2⟩ := info_parts u8info
  obtain ⟨A, cap0, rfl⟩ := own_shape (show w.ownsRow 0 5 1 v l.length (u8s (b2n l)) from hw)
  go_enter Tryd.func36, Tryd.ntmps36
  go_wp2
  go_loopw [3, 4] (fun v3 i wr => ∃ c : Nat, 8 * c ≤ l.length + 7 ∧ i = .int .i64 ((8 * c : Nat) : Int) ∧ wr.ownsRow 0 5 1 v3 c (u8s (packN c l)) ∧ (∀ k, v3.ownBlock = some k → w.heap.size ≤ k) ∧ Frm [] w wr)
    (fun _ i _ => l.length + 8 - (intOf i).toNat)
  case atStart => exact ⟨0, by omega, rfl, World.ownsRow_made w #[] 0 (Nat.zero_le _) (by unfold maxLen; omega) rfl, fun k hk => by simp [Value.ownBlock] at hk; omega, (Frm.refl _ _).alloc _⟩
  case round =>
    obtain ⟨c, hc, rfl, hrow, hnew, hfr⟩ := hrel
    by_cases hlt : 8 * c < l.length
    · go_wp2
      go_loop [5, 6] (fun b k => ∃ j : Nat, j ≤ 8 ∧ k = .int .i64 ((8 * c + j : Nat) : Int) ∧ b = .int .u8 ((partByte l (8 * c) j : Nat) : Int)) (fun _ k => 8 * c + 8 - (intOf k).toNat)
      case atStart => exact ⟨0, by omega, rfl, rfl⟩
      case round =>
        obtain ⟨j, hj, rfl, rfl⟩ := hrel
        by_cases hj8 : j < 8
        · have hs := partByte_small l (8 * c) j hj8
          have hpb : partByte l (8 * c) (j + 1) = partByte l (8 * c) j * 2 + (l.getD (8 * c + j) false).toNat := rfl
          have Hpb := hide hpb
          clear hpb
          have hbb := bool_nat (l.getD (8 * c + j) false)
          generalize partByte l (8 * c) j = N at hs Hpb ⊢
          by_cases hin : 8 * c + j < l.length
          · obtain ⟨r, cap, cur, hA, _⟩ := own_form (show w.ownsRow 0 5 1 _ l.length (u8s (b2n l)) from hw) (by omega)
            obtain ⟨rfl, rfl⟩ : A = some ⟨r, 0, none⟩ ∧ cap0 = cap := by simpa using hA
            have hcl := bitrow_cell (w := wr) (own_frm hw hfr (by simp)) (i := 8 * c + j) hin
            generalize (l.getD (8 * c + j) false).toNat = B at hcl Hpb hbb
            go_wp2
            go_round
            case measure => simp [intOf]; omega
            case rel =>
              refine ⟨j + 1, by omega, by go_num, ?_⟩
              rw [Hpb.out]; go_num
          · have hz : (l.getD (8 * c + j) false).toNat = 0 := by simp [List.getD, List.getElem?_eq_none (show l.length ≤ 8 * c + j by omega)]
            have Hz := hide hz
            clear hz hbb
            go_wp2
            go_round
            case measure => simp [intOf]; omega
            case rel =>
              refine ⟨j + 1, by omega, by go_num, ?_⟩
              rw [Hpb.out, Hz.out]; go_num
        · obtain rfl : j = 8 := by omega
          have hpe := partByte_eight l (8 * c)
          have hsn := packN_snoc c l
          have Hpe := hide hpe
          have Hsn := hide hsn
          clear hpe hsn
          go_wp2_with (at_builtin; refine wp_append1 rfl (.tmp 33) (.tmp 35) 40 5 rfl Tryd.underlying40 hi0 hz0 hz1 hz2 rfl u3 _ _ rfl hrow _ 1 rfl rfl (by unfold maxLen; omega) (by omega) ?_; intro r cap w1 hown1 hf1 hat1)
          go_roundw
          case measure => simp [intOf]; omega
          case rel =>
            refine ⟨c + 1, by omega, by go_num, ?_, ?_, hfr.trans hf1 (fun x hx => .inr (hnew x (by simpa using hx)))⟩
            · rw [Hsn.out, ← Hpe.out, ← u8s_snoc]; exact hown1
            · intro k hk
              have hkr : r = k := by simpa [Value.ownBlock] using hk
              subst hkr
              rcases hat1 with h | h
              · exact hnew _ h
              · have := hfr.size; omega
    · have hcc : c = (l.length + 7) / 8 := by omega
      have hcv := own_string (dst := 9) Tryd.underlying40 Tryd.underlying5 Tryd.underlying9 hrow
      go_wp2
      go_ret
      subst hcc
      exact ⟨rfl, hfr⟩

theorem unpack_take (s : List Nat) (i : Nat) (h : i < s.length) : unpack (s.take (i + 1)) = unpack (s.take i) ++ bitsOf (s.getD i 0) 8 := by
  rw [List.take_succ_eq_append_getElem h, List.getD_eq_getElem?_getD, List.getElem?_eq_getElem h]
  simp only [unpack, List.flatMap_append, List.flatMap_cons, List.flatMap_nil, List.append_nil, Option.getD_some]

theorem byte_bit (y k : Nat) (hy : y < 256) : bits BinOp.and IntKind.u8 ((y : Int) / 2 ^ k) 1 = (((y.testBit k).toNat : Nat) : Int) := by
  have e : ((y : Int) / 2 ^ k) = ((y / 2 ^ k : Nat) : Int) := by simp
  have hd : y / 2 ^ k < 256 := Nat.lt_of_le_of_lt (Nat.div_le_self _ _) hy
  rw [e, show ((1 : Int)) = ((1 : Nat) : Int) from rfl, u8_and_nat _ 1 hd (by decide), nat_mask1, Nat.testBit_eq_decide_div_mod_eq]
  rcases Nat.mod_two_eq_zero_or_one (y / 2 ^ k) with h | h <;> simp [h]

set_option maxRecDepth 100000 in
set_option maxHeartbeats 1000000 in
theorem rlist_any (s : ByteArray) (hl : 8 * s.size ≤ 140737488355328) (w : World) :
    Calls Tryd.prog 38 #[.string s] w fun e w' => ∃ v, e = .returned v ∧ BitRow w' v (unpack (bl s)) ∧ (∀ k, v.ownBlock = some k → w.heap.size ≤ k) ∧ Frm [] w w' := by
  obtain ⟨i0, hi0, hz0, hz1, hz2⟩ := info_parts u8info
  have hbl := bl_length s
  have Hbl := hide hbl
  clear hbl
  go_enter Tryd.func38, Tryd.ntmps38
  go_wp2
  go_loopw [3, 4] (fun v3 i wr => ∃ c : Nat, c ≤ s.size ∧ i = .int .i64 (c : Int) ∧ BitRow wr v3 (unpack ((bl s).take c)) ∧ (∀ k, v3.ownBlock = some k → w.heap.size ≤ k) ∧ Frm [] w wr)
    (fun _ i _ => s.size - (intOf i).toNat)
  case atStart => exact ⟨0, by omega, rfl, World.ownsRow_nil _ _ _ _, fun k hk => by simp [Value.ownBlock] at hk, Frm.refl _ _⟩
  case round =>
    obtain ⟨c, hc, rfl, hrow, hnew, hfr⟩ := hrel
    by_cases hlt : c < s.size
    · obtain ⟨y, hy⟩ : ∃ y, y = (bl s).getD c 0 := ⟨_, rfl⟩
      have hidx := idx_str Tryd.underlying9 s c (c : Int) rfl hlt y hy
      have hun := unpack_take (bl s) c (by rw [Hbl.out]; exact hlt)
      have hy256 : y < 256 := by
        rw [hy, List.getD_eq_getElem?_getD, List.getElem?_eq_getElem (by rw [Hbl.out]; exact hlt)]
        exact bl_lt s _ (List.getElem_mem _)
      rw [← hy] at hun
      have Hun := hide hun
      have Hy := hide hy
      clear hun hy
      have hlen : (unpack ((bl s).take c)).length = 8 * c := by rw [unpack_length, List.length_take, Hbl.out]; omega
      have Hlen := hide hlen
      clear hlen
      go_wp2
      go_loopw [3, 5] (fun v3 k wq => ∃ (j : Nat) (l' : List Bool), j ≤ 8 ∧ k = .int .i64 ((j : Int) - 1) ∧ l' ++ bitsOf y j = unpack ((bl s).take (c + 1)) ∧ BitRow wq v3 l' ∧ (∀ k, v3.ownBlock = some k → w.heap.size ≤ k) ∧ Frm [] w wq)
        (fun _ k _ => ((intOf k) + 1).toNat)
      case atStart => exact ⟨8, unpack ((bl s).take c), by omega, rfl, Hun.out.symm, hrow, hnew, hfr⟩
      case round =>
        clear hrow hnew hfr
        obtain ⟨j, l', hj, rfl, hall, hrow, hnew, hfr⟩ := hrel
        have hll : l'.length + j = 8 * c + 8 := by
          have := congrArg List.length hall
          rw [List.length_append, bitsOf_length, unpack_length, List.length_take, Hbl.out] at this
          omega
        have Hall := hide hall
        have hl3 : l'.length + 1 ≤ 8 * c + 8 ∨ j = 0 := by omega
        clear hall hll
        by_cases hj0 : 0 < j
        · have hl4 : l'.length + 1 ≤ 8 * c + 8 := by omega
          clear hl3
          have hrw : wr.ownsRow 0 5 1 u3 l'.length (u8s (b2n l')) := hrow
          go_wp2_with (at_builtin; refine wp_append1 rfl (.tmp 16) (.tmp 24) 40 5 rfl Tryd.underlying40 hi0 hz0 hz1 hz2 rfl u3 _ _ rfl hrw _ 1 rfl rfl (by unfold maxLen; omega) (by omega) ?_; intro r cap w1 hown1 hf1 hat1)
          go_roundw
          case measure => simp [intOf]; omega
          case rel =>
            refine ⟨j - 1, l' ++ [y.testBit (j - 1)], by omega, by congr 1; omega, ?_, ?_, ?_, hfr.trans hf1 (fun x hx => .inr (hnew x (by simpa using hx)))⟩
            · rw [← Hall.out, bitsOf_pred y j hj0, List.append_assoc]; rfl
            · exact bitrow_snoc hown1 (byte_bit y (j - 1) hy256)
            · intro k hk
              have hkr : r = k := by simpa [Value.ownBlock] using hk
              subst hkr
              rcases hat1 with h | h
              · exact hnew _ h
              · have := hfr.size; omega
        · go_wp2
          obtain rfl : j = 0 := by omega
          have e := Hall.out
          simp only [bitsOf, List.append_nil] at e
          subst e
          go_roundw
          case measure => simp [intOf]; omega
          case rel => exact ⟨c + 1, by omega, by go_num, hrow, hnew, hfr⟩
    · go_wp2
      obtain rfl : c = s.size := by omega
      go_ret
      have e : (bl s).take s.size = bl s := List.take_of_length_le (by rw [Hbl.out]; exact Nat.le_refl _)
      rw [e] at hrow
      exact ⟨u3, rfl, hrow, hnew, hfr⟩

end Go.Proofs.YtdnllmibchmnnaaDoor
