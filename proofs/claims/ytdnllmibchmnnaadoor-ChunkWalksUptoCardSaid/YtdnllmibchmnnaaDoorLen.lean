/-
  The contracts of bits.Len64, bits.LeadingZeros64 and bits.TrailingZeros64 (the first is laid off the kit's template).
-/
import Derived.Test.YtdnllmibchmnnaaDoorBase
import Derived.Test.YtdnllmibchmnnaaDoorZer
import Derived.Lib.Strings
import Derived.Lib.Slices
import Derived.Lib.Small
import Derived.Lib.Walk
import Derived.Lib.BitFns
import Derived.Outline
namespace Go.Proofs.YtdnllmibchmnnaaDoor
set_option linter.unusedVariables false
set_option linter.unusedSimpArgs false
open Go.RowKit

theorem len_tab (E : Int) (h0 : 0 ≤ E) (h1 : E < 256) (h : E.toNat < Lib.len8tab.size) : ((Lib.len8tab[E.toNat]'h).toNat : Int) = (Lib.bitLen E.toNat : Int) := by
  rw [← Lib.len8_of E h0 (by omega)]
  unfold Lib.len8
  rw [getElem?_pos Lib.len8tab E.toNat h]
  rfl
theorem len_end (E : Int) (c n : Nat) (h0 : 0 ≤ E) (h1 : E < 256) (h : E.toNat < Lib.len8tab.size) (hb : Lib.bitLen n = c + Lib.bitLen E.toNat ∧ c ≤ 56) :
    wrap64 ((c : Int) + wrap64 ((Lib.len8tab[E.toNat]'h).toNat : Int)) = (Lib.bitLen n : Int) := by
  have l := Lib.bitLen_le8' E h0 (by omega)
  rw [len_tab E h0 h1 h]
  unfold wrap64
  omega
theorem len_end0 (E : Int) (h0 : 0 ≤ E) (h1 : E < 256) (h : E.toNat < Lib.len8tab.size) : wrap64 (wrap64 ((Lib.len8tab[E.toNat]'h).toNat : Int)) = (Lib.bitLen E.toNat : Int) := by
  have l := Lib.bitLen_le8' E h0 (by omega)
  rw [len_tab E h0 h1 h]
  unfold wrap64
  omega

set_option maxHeartbeats 4000000 in
set_option maxRecDepth 100000 in
theorem len64_any (x : Int) (w : World) (h0 : 0 ≤ x) (h1 : x ≤ 18446744073709551615) :
    Calls Tryd.prog 57 #[.int .u64 x] w fun e w' => e = .returned (.int .i64 (Lib.bitLen x.toNat)) ∧ w = w' := by
  have hsz : Lib.len8tab.size = 256 := by decide +kernel
  go_enter Tryd.func57, Tryd.ntmps57
  go_wp2
  all_goals (go_ret; refine ⟨congrArg Ending.returned (congrArg (Value.int IntKind.i64) ?_), rfl⟩)
  all_goals first
    | (refine len_end (x / 4294967296 / 65536 / 256) 56 x.toNat (by omega) (by omega) _ ?_
       have e : (x / 4294967296 / 65536 / 256).toNat = x.toNat / 72057594037927936 := by omega
       have s := Lib.bitLen_shift56 x.toNat (by omega) (by omega)
       rw [e]
       exact ⟨by omega, by decide⟩)
    | (refine len_end (x / 4294967296 / 65536) 48 x.toNat (by omega) (by omega) _ ?_
       have e : (x / 4294967296 / 65536).toNat = x.toNat / 281474976710656 := by omega
       have s := Lib.bitLen_shift48 x.toNat (by omega) (by omega)
       rw [e]
       exact ⟨by omega, by decide⟩)
    | (refine len_end (x / 4294967296 / 256) 40 x.toNat (by omega) (by omega) _ ?_
       have e : (x / 4294967296 / 256).toNat = x.toNat / 1099511627776 := by omega
       have s := Lib.bitLen_shift40 x.toNat (by omega) (by omega)
       rw [e]
       exact ⟨by omega, by decide⟩)
    | (refine len_end (x / 4294967296) 32 x.toNat (by omega) (by omega) _ ?_
       have e : (x / 4294967296).toNat = x.toNat / 4294967296 := by omega
       have s := Lib.bitLen_shift32 x.toNat (by omega) (by omega)
       rw [e]
       exact ⟨by omega, by decide⟩)
    | (refine len_end (x / 65536 / 256) 24 x.toNat (by omega) (by omega) _ ?_
       have e : (x / 65536 / 256).toNat = x.toNat / 16777216 := by omega
       have s := Lib.bitLen_shift24 x.toNat (by omega) (by omega)
       rw [e]
       exact ⟨by omega, by decide⟩)
    | (refine len_end (x / 65536) 16 x.toNat (by omega) (by omega) _ ?_
       have e : (x / 65536).toNat = x.toNat / 65536 := by omega
       have s := Lib.bitLen_shift16 x.toNat (by omega) (by omega)
       rw [e]
       exact ⟨by omega, by decide⟩)
    | (refine len_end (x / 256) 8 x.toNat (by omega) (by omega) _ ?_
       have e : (x / 256).toNat = x.toNat / 256 := by omega
       have s := Lib.bitLen_shift8 x.toNat (by omega) (by omega)
       rw [e]
       exact ⟨by omega, by decide⟩)
    | exact len_end0 x (by omega) (by omega) _

theorem bitLenAux_log2 (f x : Nat) (h0 : x ≠ 0) (h : x < 2 ^ f) : Lib.bitLenAux f x = x.log2 + 1 := by
  induction f generalizing x with
  | zero => simp at h; omega
  | succ f ih =>
    rw [Lib.bitLenAux, if_neg h0]
    rw [Nat.pow_succ] at h
    by_cases h1 : x / 2 = 0
    · have : x = 1 := by omega
      subst this
      have e : Lib.bitLenAux f (1 / 2) = 0 := by
        cases f with
        | zero => rfl
        | succ f => rfl
      rw [e]
      decide
    · rw [ih (x / 2) h1 (by omega), Nat.log2_def x, if_pos (by omega)]
      omega
theorem bitLen_log2 (x : Nat) (h0 : x ≠ 0) (h : x < 18446744073709551616) : Lib.bitLen x = x.log2 + 1 := bitLenAux_log2 64 x h0 h

set_option maxRecDepth 100000 in
theorem lead_any (x : Nat) (X : Int) (hX : X = (x : Int)) (h0 : x ≠ 0) (h : x < 18446744073709551616) (w : World) :
    Calls Tryd.prog 47 #[.int .u64 X] w fun e w' => e = .returned (.int .i64 ((63 - x.log2 : Nat) : Int)) ∧ w = w' := by
  subst hX
  have hl := bitLen_log2 x h0 h
  have h64 := log2_lt64 x h0 h
  have hc := len64_any (x : Int) w (by omega) (by omega)
  rw [Int.toNat_natCast, hl] at hc
  go_enter Tryd.func47, Tryd.ntmps47
  go_wp2_with fail
  refine hc.mono ?_
  rintro e w' ⟨rfl, rfl⟩
  go_wp2_with fail
  go_ret
  exact ⟨ret_int (by omega), rfl⟩

end Go.Proofs.YtdnllmibchmnnaaDoor
