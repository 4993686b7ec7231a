/-
  Windows; the contracts of agg.follows and agg.fields.
-/
import Derived.Test.YtceidhjgdgnplaaWstr
import Derived.Test.YtceidhjgdgnplaaArgs
namespace Go.Proofs.Ytceidhjgdgnplaa
set_option linter.unusedVariables false
set_option linter.unusedSimpArgs false
open Go.RowKit

/-- A window. -/
structure Win where
  st : Int
  ct : Int
  sm : Nat
  mn : Nat
  mx : Nat
  la : Nat

/-- The window of zeros. -/
def win0 : Win := ⟨0, 0, 0, 0, 0, 0⟩
/-- Its fields are numbers of their types. -/
structure Win.Ok (x : Win) : Prop where
  s1 : -9223372036854775808 ≤ x.st
  s2 : x.st ≤ 9223372036854775807
  c1 : -9223372036854775808 ≤ x.ct
  c2 : x.ct ≤ 9223372036854775807
  sm : x.sm < 18446744073709551616
  mn : x.mn < 18446744073709551616
  mx : x.mx < 18446744073709551616
  la : x.la < 18446744073709551616
theorem win0_ok : win0.Ok := ⟨by decide, by decide, by decide, by decide, by decide, by decide, by decide, by decide⟩

/-- Its cells. -/
def Win.cell (x : Win) : Nat → Value
  | 0 => .int .i64 x.st
  | 1 => .int .i64 x.ct
  | 2 => .int .u64 (x.sm : Int)
  | 3 => .int .u64 (x.mn : Int)
  | 4 => .int .u64 (x.mx : Int)
  | _ => .int .u64 (x.la : Int)
def Win.arr (x : Win) : Array Value := #[.int .i64 x.st, .int .i64 x.ct, .int .u64 (x.sm : Int), .int .u64 (x.mn : Int), .int .u64 (x.mx : Int), .int .u64 (x.la : Int)]

/-- May the window x stand behind y? The error's number. -/
def winFault (x y : Win) (first : Bool) : Int :=
  if x.st < 0 ∨ 1125899906842624 < x.st then 91
  else if first = false ∧ x.st ≤ y.st then 90
  else if x.ct < 1 ∨ 4611686018427387904 < x.ct then 110
  else 0

set_option maxRecDepth 100000 in
set_option maxHeartbeats 2000000 in
theorem follows_any (x y : Win) (first : Bool) (w : World) :
    Calls Try.prog 38 #[.agg x.arr, .agg y.arr, .bool first] w fun e w' => e = .returned (.int .i64 (winFault x y first)) ∧ Frm [] w w' := by
  obtain ⟨st, ct, sm, mn, mx, la⟩ := x
  obtain ⟨st2, ct2, sm2, mn2, mx2, la2⟩ := y
  simp only [Win.arr]
  by_cases h1 : st < 0
  · have ht : winFault ⟨st, ct, sm, mn, mx, la⟩ ⟨st2, ct2, sm2, mn2, mx2, la2⟩ first = 91 := by unfold winFault; rw [if_pos (.inl h1)]
    rw [ht]
    clear ht
    go_enter Try.func38, Try.ntmps38
    go_wp2
    go_ret
    exact ⟨rfl, ((Frm.refl _ _).alloc _).alloc _⟩
  · by_cases h2 : 1125899906842624 < st
    · have ht : winFault ⟨st, ct, sm, mn, mx, la⟩ ⟨st2, ct2, sm2, mn2, mx2, la2⟩ first = 91 := by unfold winFault; rw [if_pos (.inr h2)]
      rw [ht]
      clear ht
      go_enter Try.func38, Try.ntmps38
      go_wp2
      go_ret
      exact ⟨rfl, ((Frm.refl _ _).alloc _).alloc _⟩
    · have hb : winFault ⟨st, ct, sm, mn, mx, la⟩ ⟨st2, ct2, sm2, mn2, mx2, la2⟩ first = if first = false ∧ st ≤ st2 then 90 else if ct < 1 ∨ 4611686018427387904 < ct then 110 else 0 := by unfold winFault; rw [if_neg (by simp only; omega)]
      rw [hb]
      clear hb
      by_cases h3 : first = false ∧ st ≤ st2
      · rw [if_pos h3]
        obtain ⟨rfl, h3⟩ := h3
        go_enter Try.func38, Try.ntmps38
        go_wp2
        go_ret
        exact ⟨rfl, ((Frm.refl _ _).alloc _).alloc _⟩
      · rw [if_neg h3]
        have rest : ∀ e : Int, (∀ fi : Bool, fi = first → Calls Try.prog 38 #[.agg #[.int .i64 st, .int .i64 ct, .int .u64 (sm : Int), .int .u64 (mn : Int), .int .u64 (mx : Int), .int .u64 (la : Int)], .agg #[.int .i64 st2, .int .i64 ct2, .int .u64 (sm2 : Int), .int .u64 (mn2 : Int), .int .u64 (mx2 : Int), .int .u64 (la2 : Int)], .bool fi] w fun e' w' => e' = .returned (.int .i64 e) ∧ Frm [] w w') →
            Calls Try.prog 38 #[.agg #[.int .i64 st, .int .i64 ct, .int .u64 (sm : Int), .int .u64 (mn : Int), .int .u64 (mx : Int), .int .u64 (la : Int)], .agg #[.int .i64 st2, .int .i64 ct2, .int .u64 (sm2 : Int), .int .u64 (mn2 : Int), .int .u64 (mx2 : Int), .int .u64 (la2 : Int)], .bool first] w fun e' w' => e' = .returned (.int .i64 e) ∧ Frm [] w w' := fun e h => h first rfl
        apply rest
        clear rest
        intro fi hfi
        cases fi
        · have h4 : ¬ st ≤ st2 := fun h => h3 ⟨hfi.symm, h⟩
          clear h3 hfi
          by_cases h5 : ct < 1
          · rw [if_pos (.inl h5)]
            go_enter Try.func38, Try.ntmps38
            go_wp2
            go_ret
            exact ⟨rfl, ((Frm.refl _ _).alloc _).alloc _⟩
          · by_cases h6 : 4611686018427387904 < ct
            · rw [if_pos (.inr h6)]
              go_enter Try.func38, Try.ntmps38
              go_wp2
              go_ret
              exact ⟨rfl, ((Frm.refl _ _).alloc _).alloc _⟩
            · rw [if_neg (by omega)]
              go_enter Try.func38, Try.ntmps38
              go_wp2
              go_ret
              exact ⟨rfl, ((Frm.refl _ _).alloc _).alloc _⟩
        · clear h3 hfi
          by_cases h5 : ct < 1
          · rw [if_pos (.inl h5)]
            go_enter Try.func38, Try.ntmps38
            go_wp2
            go_ret
            exact ⟨rfl, ((Frm.refl _ _).alloc _).alloc _⟩
          · by_cases h6 : 4611686018427387904 < ct
            · rw [if_pos (.inr h6)]
              go_enter Try.func38, Try.ntmps38
              go_wp2
              go_ret
              exact ⟨rfl, ((Frm.refl _ _).alloc _).alloc _⟩
            · rw [if_neg (by omega)]
              go_enter Try.func38, Try.ntmps38
              go_wp2
              go_ret
              exact ⟨rfl, ((Frm.refl _ _).alloc _).alloc _⟩

set_option maxRecDepth 100000 in
set_option maxHeartbeats 2000000 in
theorem fields_any (b : Nat) (x : Win) (w : World) (hb : Blk w b 62 x.arr) :
    Calls Try.prog 39 #[.pointer (some ⟨b, 0, none⟩)] w fun e w' => e = .returned (.agg #[.pointer (some ⟨b, 2, none⟩), .pointer (some ⟨b, 3, none⟩), .pointer (some ⟨b, 4, none⟩), .pointer (some ⟨b, 5, none⟩)]) ∧ Frm [] w w' := by
  obtain ⟨st, ct, sm, mn, mx, la⟩ := x
  have c0 : w.cell? ⟨b, 0, none⟩ = some (.int .i64 st) := hb.cell 0
  go_enter Try.func39, Try.ntmps39
  go_wp2
  go_region
  go_wp2
  have hblk := Blk.new w 81 #[.pointer (some ⟨b, 2, none⟩), .pointer (some ⟨b, 3, none⟩), .pointer (some ⟨b, 4, none⟩), .pointer (some ⟨b, 5, none⟩)]
  refine bodyPost_ret (results_cell_row rfl _ _ w.heap.size 81 _ (0, 0) _ rfl hblk.drew Try.underlying81 rfl (by kernel_rfl)) rfl ?_
  exact ⟨rfl, ((Frm.refl _ _).alloc _).drew⟩

end Go.Proofs.Ytceidhjgdgnplaa
