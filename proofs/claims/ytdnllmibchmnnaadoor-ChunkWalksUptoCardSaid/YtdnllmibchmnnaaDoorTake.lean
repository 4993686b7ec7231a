/-
  The contract of the bit reader's Take.
-/
import Derived.Test.YtdnllmibchmnnaaDoorBiod
namespace Go.Proofs.YtdnllmibchmnnaaDoor
set_option linter.unusedVariables false
set_option linter.unusedSimpArgs false
open Go.RowKit

/-- The first n bits from the place a on. -/
def cut (s : ByteArray) (a n : Nat) : List Bool := ((unpack (bl s)).drop a).take n

theorem cut_length (s : ByteArray) (a n : Nat) (h : a + n ≤ 8 * s.size) : (cut s a n).length = n := by
  simp only [cut, List.length_take, List.length_drop, unpack_length, bl_length]; omega

def bitAt (s : ByteArray) (i : Nat) : Bool := ((bl s).getD (i / 8) 0).testBit (7 - i % 8)

theorem cut_snoc (s : ByteArray) (a n : Nat) (h : a + n < 8 * s.size) : cut s a (n + 1) = cut s a n ++ [bitAt s (a + n)] := by
  have hl : n < ((unpack (bl s)).drop a).length := by rw [List.length_drop, unpack_length, bl_length]; omega
  unfold cut
  rw [List.take_succ_eq_append_getElem hl]
  congr 2
  have := unpack_get (bl s) (a + n) (by rw [bl_length]; omega)
  rw [List.getElem_drop]
  have h2 := List.getElem?_eq_getElem (l := unpack (bl s)) (i := a + n) (by rw [unpack_length, bl_length]; omega)
  rw [h2] at this
  exact Option.some.inj this

theorem take_step (s : ByteArray) (a j m y : Nat) (hj : j < 64) (hm : m = a + j) (hlt : a + j < 8 * s.size) (hy : y = (bl s).getD (m / 8) 0) :
    bits BinOp.or IntKind.u64 (IntKind.u64.wrap (((numOf (cut s a j) : Nat) : Int) * 2)) (IntKind.u64.wrap (bits BinOp.and IntKind.u8 ((y : Int) / 2 ^ (7 - m % 8)) 1)) = ((numOf (cut s a (j + 1)) : Nat) : Int) := by
  have hy256 : y < 256 := by
    have hi : m / 8 < (bl s).length := by rw [bl_length]; omega
    rw [hy, List.getD_eq_getElem?_getD, List.getElem?_eq_getElem hi]
    exact bl_lt s _ (List.getElem_mem hi)
  have e : ((y : Int) / 2 ^ (7 - m % 8)) = ((y / 2 ^ (7 - m % 8) : Nat) : Int) := by simp
  have hd : y / 2 ^ (7 - m % 8) < 256 := Nat.lt_of_le_of_lt (Nat.div_le_self _ _) hy256
  rw [e, show ((1 : Int)) = ((1 : Nat) : Int) from rfl, u8_and_nat _ 1 hd (by decide), nat_mask1]
  have hN : numOf (cut s a j) < 2 ^ j := by
    have := numOf_lt (cut s a j)
    rwa [cut_length s a j (by omega)] at this
  have h63 : 2 ^ j ≤ 2 ^ 63 := Nat.pow_le_pow_right (by decide) (by omega)
  have hN2 : numOf (cut s a j) * 2 < 18446744073709551616 := by
    have : (2 : Nat) ^ 63 = 9223372036854775808 := by decide
    omega
  have hb : y / 2 ^ (7 - m % 8) % 2 < 2 := Nat.mod_lt _ (by decide)
  have w1 : IntKind.u64.wrap (((numOf (cut s a j) : Nat) : Int) * 2) = ((numOf (cut s a j) * 2 : Nat) : Int) := by rw [IntKind.wrap_u64]; omega
  have w2 : IntKind.u64.wrap ((y / 2 ^ (7 - m % 8) % 2 : Nat) : Int) = ((y / 2 ^ (7 - m % 8) % 2 : Nat) : Int) := by rw [IntKind.wrap_u64]; omega
  rw [w1, w2, u64_or_nat _ _ hN2 (by omega), nat_join 1 _ _ (by omega) (by omega), cut_snoc s a j hlt, numOf_snoc]
  have : bitAt s (a + j) = decide (y / 2 ^ (7 - m % 8) % 2 = 1) := by
    rw [bitAt, ← hm, ← hy, Nat.testBit_eq_decide_div_mod_eq]
  rw [this]
  rcases Nat.mod_two_eq_zero_or_one (y / 2 ^ (7 - m % 8)) with h | h <;> simp [h]

set_option maxRecDepth 100000 in
set_option maxHeartbeats 1000000 in
theorem take_any (g : Nat) (s : ByteArray) (a : Nat) (n : Int) (w : World) (h : Blk w g 108 #[.string s, .int .i64 (a : Int)]) (hs : s.size ≤ 140737488355328) (ha : a ≤ 8 * s.size) (hn : a + wid n ≤ 8 * s.size) :
    Calls Tryd.prog 64 #[.pointer (some ⟨g, 0, none⟩), .int .i64 n] w fun e w' => e = .returned (.tuple #[.int .u64 ((numOf (cut s a (wid n)) : Nat) : Int), .bool true]) ∧
      Blk w' g 108 #[.string s, .int .i64 ((a + wid n : Nat) : Int)] ∧ Frm [g] w w' := by
  have hwid : ((wid n : Nat) : Int) = max 0 (min n 64) := by unfold wid; omega
  have hw64 : wid n ≤ 64 := by unfold wid; omega
  have Hwid := hide hwid
  clear hwid
  go_enter Tryd.func64, Tryd.ntmps64
  go_wp2_with (first | (go_at_call 45; refine (width_any _ _).mono ?_; rintro e w' ⟨rfl, rfl⟩; rw [← Hwid.out]) | (go_at_call 65; refine (left_any g s a _ h hs ha).mono ?_; rintro e w1 ⟨rfl, ⟨q, rfl⟩⟩))
  go_loopw [6, 14] (fun v i wr => ∃ j : Nat, j ≤ wid n ∧ i = .int .i64 j ∧ v = .int .u64 ((numOf (cut s a j) : Nat) : Int) ∧ Blk wr g 108 #[.string s, .int .i64 ((a + j : Nat) : Int)] ∧ Frm [g] w wr)
    (fun _ i _ => wid n - (intOf i).toNat)
  case atStart => exact ⟨0, Nat.zero_le _, rfl, by simp [cut, numOf], h, (Frm.refl _ _).drewN _⟩
  case round =>
    obtain ⟨j, hj, rfl, rfl, hb, hf⟩ := hrel
    have h0 : wr.cell? ⟨g, 0, none⟩ = some (.string s) := hb.cell 0
    have h1 : wr.cell? ⟨g, 1, none⟩ = some (.int .i64 ((a + j : Nat) : Int)) := hb.cell 1
    have f1 := hb.frozen 1
    by_cases hlt : j < wid n
    · obtain ⟨m, hm⟩ : ∃ m, m = a + j := ⟨_, rfl⟩
      rw [← hm] at hb h1
      have hi : m / 8 < s.size := by omega
      have hm2 : m ≤ 1125899906842624 := by omega
      have Hm := hide hm
      clear hm
      obtain ⟨y, hy⟩ : ∃ y, y = (bl s).getD (m / 8) 0 := ⟨_, rfl⟩
      have hidx := idx_str Tryd.underlying9 s (m / 8) ((m : Int) / 8) (by omega) hi y hy
      have Hy := hide hy
      clear hy
      go_wp2
      go_region
      go_wp2
      go_roundw
      case measure => simp [intOf]; omega
      case rel =>
        have hm := Hm.out
        refine ⟨j + 1, by omega, by go_num, congrArg (Value.int .u64) (take_step s a j m y (by omega) hm (by omega) Hy.out), ?_, (hf.setCell (.inl (List.mem_cons_self ..)) _).drew⟩
        have hb2 := hb.set_ 1 (.int .i64 ((m : Int) + 1))
        have e : ((m : Int) + 1) = ((a + (j + 1) : Nat) : Int) := by omega
        rw [← e]
        simpa using hb2.drew
    · go_wp2
      obtain rfl : j = wid n := by omega
      go_ret2
      exact ⟨rfl, hb, hf⟩

/-- A piece that is too long takes nothing. -/
theorem take_short (g : Nat) (s : ByteArray) (a : Nat) (n : Int) (w : World) (h : Blk w g 108 #[.string s, .int .i64 (a : Int)]) (hs : s.size ≤ 140737488355328) (ha : a ≤ 8 * s.size) (hn : 8 * s.size < a + wid n) :
    Calls Tryd.prog 64 #[.pointer (some ⟨g, 0, none⟩), .int .i64 n] w fun e w' => e = .returned (.tuple #[.int .u64 0, .bool false]) ∧ ∃ k, w' = w.drewN k := by
  have hwid : ((wid n : Nat) : Int) = max 0 (min n 64) := by unfold wid; omega
  have hw64 : wid n ≤ 64 := by unfold wid; omega
  have Hwid := hide hwid
  clear hwid
  go_enter Tryd.func64, Tryd.ntmps64
  go_wp2_with (first | (go_at_call 45; refine (width_any _ _).mono ?_; rintro e w' ⟨rfl, rfl⟩; rw [← Hwid.out]) | (go_at_call 65; refine (left_any g s a _ h hs ha).mono ?_; rintro e w1 ⟨rfl, ⟨q, rfl⟩⟩))
  go_ret2
  exact ⟨rfl, _, rfl⟩

/-- A nil reader has nothing. -/
theorem take_nil (n : Int) (w : World) :
    Calls Tryd.prog 64 #[.pointer none, .int .i64 n] w fun e w' => e = .returned (.tuple #[.int .u64 0, .bool (decide (n ≤ 0))]) ∧ w = w' := by
  have hwid : ((wid n : Nat) : Int) = max 0 (min n 64) := by unfold wid; omega
  have Hwid := hide hwid
  clear hwid
  by_cases hn : n ≤ 0
  · have h0 : wid n = 0 := by have := Hwid.out; omega
    go_enter Tryd.func64, Tryd.ntmps64
    go_wp2_with (first | (go_at_call 45; refine (width_any _ _).mono ?_; rintro e w' ⟨rfl, rfl⟩; rw [← Hwid.out]) | (go_at_call 65; refine (left_nil _).mono ?_; rintro e w1 ⟨rfl, rfl⟩))
    refine wp_loop_rounds 1 ?_
    rw [rounds_succ]
    go_wp2
    go_ret2
    exact ⟨by simp [hn], rfl⟩
  · have h0 : 0 < wid n := by have := Hwid.out; omega
    go_enter Tryd.func64, Tryd.ntmps64
    go_wp2_with (first | (go_at_call 45; refine (width_any _ _).mono ?_; rintro e w' ⟨rfl, rfl⟩; rw [← Hwid.out]) | (go_at_call 65; refine (left_nil _).mono ?_; rintro e w1 ⟨rfl, rfl⟩))
    go_ret2
    exact ⟨by simp [hn], rfl⟩

end Go.Proofs.YtdnllmibchmnnaaDoor
