/-
  The contracts of what the laws of layer 11 share: twin, windows, alike, wakes.
-/
import Derived.Test.YtceidhjgdgnplaaWrow
import Derived.Test.YtceidhjgdgnplaaEncw
import Derived.Outline
namespace Go.Proofs.Ytceidhjgdgnplaa
set_option linter.unusedVariables false
set_option linter.unusedSimpArgs false
open Go.RowKit Go.BigFrame

/-- A new row of n windows behind the call. -/
def NewRow (e : TypeId) (n : Nat) (F : Nat → Win) (w : World) (r : Ending) (w' : World) : Prop :=
  ∃ v, r = .returned v ∧ WRow w' e v n F ∧ Fresh w.heap.size v ∧ Frm [] w w'

set_option maxRecDepth 100000 in
set_option maxHeartbeats 1000000 in
theorem twin_any (A : Option Addr) (n cap : Nat) (F : Nat → Win) (hn : n * 48 ≤ 140737488351232) (w : World) (hc : CellsAt w A n 6 (fun i j => (F i).cell j)) :
    Calls Try.prog 26 #[.slice A n cap] w (NewRow 62 n F w) := by
  obtain ⟨v, w1, hr, hown, hf, hg⟩ := append_wins (ty := 48) Try.underlying48 wininfo w A n cap F (WRow.nil w _ F) hc hn
  have Hr := hide hr
  clear hr
  go_enter Try.func26, Try.ntmps26
  go_wp2_with (at_builtin; refine wp_append_known rfl (.const (.slice none 0 0)) (.tmp 3) 48 48 rfl rfl rfl Hr.out ?_)
  go_ret
  exact ⟨v, rfl, hown, (Fresh.nil _).grew hg (Nat.le_refl _), hf⟩

set_option maxRecDepth 100000 in
set_option maxHeartbeats 1000000 in
theorem windows_any (A : Option Addr) (n cap : Nat) (F : Nat → Win) (hn : n * 48 ≤ 140737488351232) (w : World) (hc : CellsAt w A n 6 (fun i j => (F i).cell j)) :
    Calls Try.prog 28 #[.slice A n cap] w (NewRow 84 n F w) := by
  go_enter Try.func28, Try.ntmps28
  go_wp2
  go_loopw [3, 8] (fun x i wr => ∃ k : Nat, k ≤ n ∧ i = .int .i64 (k : Int) ∧ WRow wr 84 x k F ∧ Fresh w.heap.size x ∧ Frm [] w wr) (fun _ i _ => n - (intOf i).toNat)
  case atStart => exact ⟨0, by omega, rfl, WRow.nil _ _ _, Fresh.nil _, Frm.refl _ _⟩
  case round =>
    obtain ⟨k, hk, rfl, hrow, hfr, hf⟩ := hrel
    obtain ⟨A1, c1, hsh⟩ := hrow.shape
    by_cases hlt : k < n
    · obtain ⟨sb, off, rfl, hsb, c0, c1', c2, c3, c4, c5⟩ := cells6 (hc.frm hf) hlt
      rcases hFk : F k with ⟨st, ct, sm, mn, mx, la⟩
      rw [hFk] at c0 c1' c2 c3 c4 c5
      simp only at c0 c1' c2 c3 c4 c5
      have hrow1 : WRow (wr.alloc (.cells #[.int .i64 st, .int .i64 ct, .int .u64 (sm : Int), .int .u64 (mn : Int), .int .u64 (mx : Int), .int .u64 (la : Int)] 62)) _ _ k F := hrow.quiet ((Frm.refl _ _).alloc _)
      obtain ⟨v', w2, hr, hown, hf2, hg2⟩ := append_win (ty := 55) Try.underlying55 winfor _ hrow1 ⟨st, ct, sm, mn, mx, la⟩ hFk (by omega)
      simp only [Win.arr, World.size_alloc] at hr
      have Hr := hide hr
      have HF := hide hFk
      clear hr hFk
      subst hsh
      go_wp2_with (at_builtin; refine wp_append_known rfl (.tmp 12) (.tmp 26) 55 55 rfl rfl rfl Hr.out ?_)
      go_roundw
      case measure => simp [intOf]; omega
      case rel =>
        refine ⟨k + 1, by omega, by go_num, hown, ?_, ?_⟩
        · refine (hfr.grew hg2 ?_)
          have := hf.size
          simp
          omega
        · exact (hf.alloc _).trans hf2 hfr.row
    · obtain rfl : k = n := by omega
      subst hsh
      go_wp2
      go_ret
      exact ⟨_, rfl, hrow, hfr, hf⟩

set_option maxRecDepth 100000 in
set_option maxHeartbeats 1000000 in
/-- Lists that hold the same windows are alike. -/
theorem alike_any (A : Option Addr) (n cap : Nat) (F : Nat → Win) (B : Option Addr) (capb : Nat) (hn : n * 48 ≤ 140737488351232) (w : World) (ha : CellsAt w A n 6 (fun i j => (F i).cell j)) (hb : CellsAt w B n 6 (fun i j => (F i).cell j)) :
    Calls Try.prog 32 #[.slice A n cap, .slice B n capb] w fun e w' => e = .returned (.bool true) ∧ Frm [] w w' := by
  go_enter Try.func32, Try.ntmps32
  go_wp2_with fail
  refine (windows_any A n cap F hn _ ha).mono ?_
  rintro e w1 ⟨v, rfl, hrow, hfr, hf⟩
  obtain ⟨A1, c1, rfl⟩ := hrow.shape
  have hb1 := hb.frm hf
  go_wp2_with fail
  go_loopw [16] (fun i wr => ∃ k : Nat, k ≤ n ∧ i = .int .i64 (k : Int) ∧ Frm [] w1 wr) (fun i _ => n - (intOf i).toNat)
  case atStart => exact ⟨0, by omega, rfl, Frm.refl _ _⟩
  case round =>
    obtain ⟨k, hk, rfl, hfk⟩ := hrel
    by_cases hlt : k < n
    · obtain ⟨sb, off, rfl, hsb, c0, c1', c2, c3, c4, c5⟩ := cells6 (hrow.cellsAt.frm hfk) hlt
      obtain ⟨tb, tof, rfl, htb, d0, d1, d2, d3, d4, d5⟩ := cells6 (hb1.frm hfk) hlt
      have hne := neq_win (F k) (F k)
      rw [(same_iff (F k) (F k)).2 rfl] at hne
      rcases hFk : F k with ⟨st, ct, sm, mn, mx, la⟩
      rw [hFk] at c0 c1' c2 c3 c4 c5 d0 d1 d2 d3 d4 d5 hne
      simp only [Win.arr, Bool.not_true] at c0 c1' c2 c3 c4 c5 d0 d1 d2 d3 d4 d5 hne
      have HF := hide hFk
      clear hFk
      have b1 : (0 : Int) ≤ (k : Int) := by omega
      have b2 : (k : Int) < (n : Int) := by omega
      go_wp2_with fail
      go_quiet (fail)
      go_wp2
      go_roundw
      case measure => simp [intOf]; omega
      case rel => exact ⟨k + 1, by omega, by go_num, hfk.drewN _⟩
    · obtain rfl : k = n := by omega
      go_wp2
      go_ret
      exact ⟨rfl, hf.trans hfk (by simp)⟩

/-- The two windows of the guard. -/
def wakeF (i : Nat) : Win := if i = 0 then ⟨1, 2, 5, 1, 4, 4⟩ else ⟨9, 1, 5, 5, 5, 5⟩
theorem wakeF_tell : tellW wakeF 2 = .tuple #[.string { data := #[2, 1, 2, 5, 1, 4, 4, 8, 1, 0, 4, 1, 1] }, .int .i64 0] := by
  unfold tellW
  rw [if_pos (by decide +kernel)]
  have : bstr (encAll wakeF 2 2) = { data := #[2, 1, 2, 5, 1, 4, 4, 8, 1, 0, 4, 1, 1] } := by
    apply bl_inj
    rw [bl_bstr _ (encAll_byte _ _ _)]
    decide +kernel
  rw [this]
theorem wakeF_ok : ∀ i, i < 2 → (wakeF i).Ok := by
  intro i hi
  obtain rfl | rfl : i = 0 ∨ i = 1 := by omega
  · exact ⟨by decide, by decide, by decide, by decide, by decide, by decide, by decide, by decide⟩
  · exact ⟨by decide, by decide, by decide, by decide, by decide, by decide, by decide, by decide⟩

set_option maxRecDepth 100000 in
set_option maxHeartbeats 1000000 in
theorem wakw_any (w : World) :
    Calls Try.prog 29 #[] w fun e w' => e = .returned (.bool true) ∧ Frm [] w w' := by
  have hB := Blk.new w 62 #[.int .i64 1, .int .i64 2, .int .u64 5, .int .u64 1, .int .u64 4, .int .u64 4, .int .i64 9, .int .i64 1, .int .u64 5, .int .u64 5, .int .u64 5, .int .u64 5]
  have hc : CellsAt (w.alloc (.cells #[.int .i64 1, .int .i64 2, .int .u64 5, .int .u64 1, .int .u64 4, .int .u64 4, .int .i64 9, .int .i64 1, .int .u64 5, .int .u64 5, .int .u64 5, .int .u64 5] 62)) (some ⟨w.heap.size, 0, none⟩) 2 6 (fun i j => (wakeF i).cell j) := by
    intro _
    refine ⟨w.heap.size, 0, rfl, hB.lt, fun i j hi hj => ?_⟩
    have h := hB.cell (0 + (i * 6 + j))
    rw [h]
    obtain rfl | rfl : i = 0 ∨ i = 1 := by omega
    · obtain rfl | rfl | rfl | rfl | rfl | rfl : j = 0 ∨ j = 1 ∨ j = 2 ∨ j = 3 ∨ j = 4 ∨ j = 5 := by omega
      all_goals rfl
    · obtain rfl | rfl | rfl | rfl | rfl | rfl : j = 0 ∨ j = 1 ∨ j = 2 ∨ j = 3 ∨ j = 4 ∨ j = 5 := by omega
      all_goals rfl
  have henc := encode_any (some ⟨w.heap.size, 0, none⟩) 2 2 wakeF wakeF_ok (by decide) _ hc
  rw [wakeF_tell] at henc
  have Henc := hide henc
  have hf0 : Frm [] w _ := (Frm.refl [] w).alloc (.cells #[.int .i64 1, .int .i64 2, .int .u64 5, .int .u64 1, .int .u64 4, .int .u64 4, .int .i64 9, .int .i64 1, .int .u64 5, .int .u64 5, .int .u64 5, .int .u64 5] 62)
  clear henc hc hB
  go_enter Try.func29, Try.ntmps29
  go_wp2_with fail
  refine Henc.out.mono ?_
  rintro e w1 ⟨rfl, hf1⟩
  go_wp2_with fail
  go_ret
  exact ⟨rfl, hf0.trans hf1 (by simp)⟩

end Go.Proofs.Ytceidhjgdgnplaa
