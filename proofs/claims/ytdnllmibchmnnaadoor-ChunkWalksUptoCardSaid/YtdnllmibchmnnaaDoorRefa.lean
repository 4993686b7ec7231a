/-
  The contracts of the document's answer for layer 1 (bits as lists of 0 and 1).
-/
import Derived.Test.YtdnllmibchmnnaaDoorTake
namespace Go.Proofs.YtdnllmibchmnnaaDoor
set_option linter.unusedVariables false
set_option linter.unusedSimpArgs false
open Go.RowKit

def b2n (l : List Bool) : List Nat := l.map Bool.toNat
theorem b2n_length (l : List Bool) : (b2n l).length = l.length := by simp [b2n]
theorem b2n_snoc (l : List Bool) (b : Bool) : b2n l ++ [b.toNat] = b2n (l ++ [b]) := by simp [b2n]
theorem b2n_get (l : List Bool) (i : Nat) (h : i < l.length) : (b2n l).getD i 0 = (l.getD i false).toNat := by
  simp [b2n, List.getD, h]

/-- A row of the call's own that holds these bits, one a byte. -/
def BitRow (w : World) (v : Value) (l : List Bool) : Prop := w.ownsRow 0 5 1 v l.length (u8s (b2n l))

set_option maxHeartbeats 400000 in
theorem rwidth_any (n : Int) (w : World) :
    Calls Tryd.prog 51 #[.int .i64 n] w fun e w' => e = .returned (.int .i64 (wid n : Nat)) ∧ w = w' := by
  go_enter Tryd.func51, Tryd.ntmps51
  go_wp2
  all_goals
    go_ret
    exact ⟨ret_int (by unfold wid; omega), rfl⟩

theorem bit_of (x k : Nat) (hx : x < 18446744073709551616) : IntKind.u8.wrap (bits BinOp.and IntKind.u64 ((x : Int) / 2 ^ k) 1) = (((x.testBit k).toNat : Nat) : Int) := by
  have e : ((x : Int) / 2 ^ k) = ((x / 2 ^ k : Nat) : Int) := by simp
  have hlt : x / 2 ^ k < 18446744073709551616 := Nat.lt_of_le_of_lt (Nat.div_le_self _ _) hx
  have h := u64_and_nat (x / 2 ^ k) 1 hlt (by decide)
  rw [e, show ((1 : Int)) = ((1 : Nat) : Int) from rfl, h, nat_mask1, Nat.testBit_eq_decide_div_mod_eq, IntKind.wrap_u8']
  rcases Nat.mod_two_eq_zero_or_one (x / 2 ^ k) with h | h <;> simp [h]

theorem bitrow_snoc {w : World} {v : Value} {l : List Bool} {b : Bool} {E : Int} (h : w.ownsRow 0 5 1 v (l.length + 1) (u8s (b2n l) ++ [.int .u8 E])) (hE : E = ((b.toNat : Nat) : Int)) : BitRow w v (l ++ [b]) := by
  subst hE
  rw [u8s_snoc, b2n_snoc] at h
  unfold BitRow
  rw [List.length_append, List.length_singleton]
  exact h

set_option maxRecDepth 100000 in
set_option maxHeartbeats 1000000 in
theorem rput_any (v : Value) (l : List Bool) (x : Nat) (n : Int) (hx : x < 18446744073709551616) (hl : l.length + 64 ≤ 140737488355328) (w : World) (hw : BitRow w v l) :
    Calls Tryd.prog 33 #[v, .int .u64 (x : Int), .int .i64 n] w fun e w' =>
      ∃ v', e = .returned v' ∧ BitRow w' v' (l ++ bitsOf x (wid n)) ∧ Frm v.ownBlock.toList w w' ∧ Grew w v v' := by
  obtain ⟨i0, hi0, hz0, hz1, hz2⟩ := info_parts u8info
  have hw64 : wid n ≤ 64 := by unfold wid; omega
  go_enter Tryd.func33, Tryd.ntmps33
  go_wp2_with (go_at_call 51; refine (rwidth_any _ _).mono ?_; rintro e w' ⟨rfl, rfl⟩)
  go_loopw [0, 7] (fun v' i wr => ∃ (k : Nat) (l' : List Bool), k ≤ 64 ∧ i = .int .i64 ((k : Int) - 1) ∧ l' ++ bitsOf x k = l ++ bitsOf x (wid n) ∧ BitRow wr v' l' ∧ Frm v.ownBlock.toList w wr ∧ Grew w v v')
    (fun _ i _ => ((intOf i) + 1).toNat)
  case atStart => exact ⟨wid n, l, hw64, rfl, rfl, hw, Frm.refl _ _, Grew.refl _ _⟩
  case round =>
    obtain ⟨k, l', hk, rfl, hall, hrow, hfr, hown⟩ := hrel
    have hall2 := congrArg List.length hall
    simp only [List.length_append, bitsOf_length] at hall2
    have hl2 : l'.length + 1 ≤ 140737488355328 ∨ k = 0 := by omega
    have Hall := hide hall
    clear hall hall2
    by_cases hk0 : 0 < k
    · have hl3 : l'.length + 1 ≤ 140737488355328 := by omega
      have hrw : wr.ownsRow 0 5 1 u0 l'.length (u8s (b2n l')) := hrow
      go_wp2_with (at_builtin; refine wp_append1 rfl (.tmp 16) (.tmp 23) 40 5 rfl Tryd.underlying40 hi0 hz0 hz1 hz2 rfl u0 _ _ rfl hrw _ 1 rfl rfl (by unfold maxLen; omega) (by omega) ?_; intro r cap w1 hown1 hf1 hat1)
      go_roundw
      case measure => simp [intOf]; omega
      case rel =>
        have hG := Grew.of_at (m := l'.length + 1) (cap := cap) hat1
        refine ⟨k - 1, l' ++ [x.testBit (k - 1)], by omega, by congr 1; omega, ?_, ?_, hfr.trans hf1 hown.mem, Grew.trans hfr.size hown hG⟩
        · rw [← Hall.out, bitsOf_pred x k hk0, List.append_assoc]; rfl
        · exact bitrow_snoc hown1 (bit_of x (k - 1) hx)
    · go_wp2
      obtain rfl : k = 0 := by omega
      go_ret
      have e := Hall.out
      simp only [bitsOf, List.append_nil] at e
      subst e
      exact ⟨u0, rfl, hrow, hfr, hown⟩

end Go.Proofs.YtdnllmibchmnnaaDoor
