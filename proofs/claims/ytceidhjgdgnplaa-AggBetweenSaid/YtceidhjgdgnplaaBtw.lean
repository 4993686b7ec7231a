/-
  The contracts of slices.Clone, slices.IndexFunc and slices.DeleteFunc at windows, and of agg.Between.
-/
import Derived.Test.YtceidhjgdgnplaaWset
import Derived.Test.YtceidhjgdgnplaaWlaw
import Derived.Outline
namespace Go.Proofs.Ytceidhjgdgnplaa
set_option linter.unusedVariables false
set_option linter.unusedSimpArgs false
open Go.RowKit Go.BigFrame

set_option maxRecDepth 100000 in
set_option maxHeartbeats 1000000 in
theorem clone_any (A : Option Addr) (n cap : Nat) (F : Nat → Win) (hn : n * 48 ≤ 140737488351232) (w : World) (hc : CellsAt w A n 6 (fun i j => (F i).cell j)) :
    Calls Try.prog 43 #[.slice A n cap] w (NewRow 62 n F w) := by
  have hnil := fun (W : World) (n c n' c' : Nat) (A : Option Addr) => Lib.run_eql_slice_nil (P := Try.prog) W 48 62 A n c n' c' Try.underlying48
  cases A with
  | none =>
    have h0 : n = 0 := by
      rcases Nat.eq_zero_or_pos n with h | h
      · exact h
      · obtain ⟨b, off, hA, _⟩ := hc h
        cases hA
    subst h0
    go_enter Try.func43, Try.ntmps43
    go_wp2
    go_ret
    exact ⟨.slice none 0 0, rfl, WRow.nil _ _ _, Fresh.nil _, Frm.refl _ _⟩
  | some ad =>
    have hrow0 : WRow (w.alloc (.cells #[] 62)) 62 (.slice (some ⟨w.heap.size, 0, none⟩) 0 0) 0 F := World.ownsRow_made w #[] 0 (Nat.zero_le _) (by unfold maxLen; omega) rfl
    have hf0 : Frm [] w (w.alloc (.cells #[] 62)) := (Frm.refl _ _).alloc _
    obtain ⟨v, w1, hr, hown, hf, hg⟩ := append_wins (ty := 48) Try.underlying48 wininfo _ (some ad) n cap F hrow0 (hc.frm hf0) hn
    have Hr := hide hr
    clear hr
    go_enter Try.func43, Try.ntmps43
    go_wp2_with (at_builtin; refine wp_append_known rfl (.tmp 5) (.tmp 6) 48 48 rfl rfl rfl Hr.out ?_)
    go_ret
    have hfr : Fresh w.heap.size (.slice (some ⟨w.heap.size, 0, none⟩) 0 0) := fun k hk => by simp [Value.ownBlock] at hk; omega
    exact ⟨v, rfl, hown, hfr.grew hg hf0.size, hf0.trans hf hfr.row⟩

/-- The test of Between. -/
def outB (a b : Int) (x : Win) : Bool := decide (x.st < a) || decide (b < x.st)

set_option maxRecDepth 100000 in
set_option maxHeartbeats 1000000 in
theorem del_any (ba bb : Nat) (a b : Int) (x : Win) (w : World) (ha : Blk w ba 2 #[.int .i64 a]) (hb : Blk w bb 2 #[.int .i64 b]) :
    Calls Try.prog 45 #[.agg x.arr, .pointer (some ⟨ba, 0, none⟩), .pointer (some ⟨bb, 0, none⟩)] w fun e w' => e = .returned (.bool (outB a b x)) ∧ Frm [] w w' := by
  have c0 : w.cell? ⟨ba, 0, none⟩ = some (.int .i64 a) := ha.cell 0
  have c1 : w.cell? ⟨bb, 0, none⟩ = some (.int .i64 b) := hb.cell 0
  have la := ha.lt
  have lb := hb.lt
  obtain ⟨st, ct, sm, mn, mx, la⟩ := x
  simp only [Win.arr]
  by_cases h1 : st < a
  · have ht : outB a b ⟨st, ct, sm, mn, mx, la⟩ = true := by simp [outB, h1]
    rw [ht]
    clear ht
    go_enter Try.func45, Try.ntmps45
    go_wp2
    go_ret
    exact ⟨rfl, (Frm.refl _ _).alloc _⟩
  · by_cases h2 : b < st
    · have ht : outB a b ⟨st, ct, sm, mn, mx, la⟩ = true := by simp [outB, h2]
      rw [ht]
      clear ht
      go_enter Try.func45, Try.ntmps45
      go_wp2
      go_ret
      exact ⟨rfl, (Frm.refl _ _).alloc _⟩
    · have ht : outB a b ⟨st, ct, sm, mn, mx, la⟩ = false := by simp [outB, h1, h2]
      rw [ht]
      clear ht
      go_enter Try.func45, Try.ntmps45
      go_wp2
      go_ret
      exact ⟨rfl, (Frm.refl _ _).alloc _⟩

/-- The first of the windows that the test takes, or n. -/
def firstOut (F : Nat → Win) (q : Win → Bool) (n : Nat) : Int → Prop
  | i => (i = -1 ∧ ∀ k, k < n → q (F k) = false) ∨ (∃ k : Nat, i = (k : Int) ∧ k < n ∧ q (F k) = true ∧ ∀ j, j < k → q (F j) = false)
/-- What IndexFunc tells. -/
def tellI' (F : Nat → Win) (q : Win → Bool) (n : Nat) (w : World) (e : Ending) (w' : World) : Prop := ∃ i : Int, e = .returned (.int .i64 i) ∧ firstOut F q n i ∧ Frm [] w w'

set_option maxRecDepth 100000 in
set_option maxHeartbeats 1000000 in
theorem index_any (A : Option Addr) (n cap : Nat) (F : Nat → Win) (ba bb : Nat) (a b : Int) (hn : n * 48 ≤ 140737488351232) (w : World) (hc : CellsAt w A n 6 (fun i j => (F i).cell j)) (ha : Blk w ba 2 #[.int .i64 a]) (hb : Blk w bb 2 #[.int .i64 b]) :
    Calls Try.prog 51 #[.slice A n cap, .func (.func 45) #[] #[.pointer (some ⟨ba, 0, none⟩), .pointer (some ⟨bb, 0, none⟩)]] w (tellI' F (outB a b) n w) := by
  go_enter Try.func51, Try.ntmps51
  go_wp2_with fail
  go_loopw [8] (fun i wr => ∃ k : Nat, k ≤ n ∧ i = .int .i64 (k : Int) ∧ Hid (∀ j, j < k → outB a b (F j) = false) ∧ Frm [] w wr) (fun i _ => n - (intOf i).toNat)
  case atStart => exact ⟨0, by omega, rfl, hide (fun j hj => absurd hj (by omega)), Frm.refl _ _⟩
  case round =>
    obtain ⟨k, hk, rfl, hall, hfk⟩ := hrel
    by_cases hlt : k < n
    · obtain ⟨sb, off, rfl, hsb, c0, c1', c2, c3, c4, c5⟩ := cells6 (hc.frm hfk) hlt
      have hdel := fun W hA hB => del_any ba bb a b (F k) W hA hB
      rcases hFk : F k with ⟨st, ct, sm, mn, mx, la⟩
      rw [hFk] at c0 c1' c2 c3 c4 c5 hdel
      simp only [Win.arr] at c0 c1' c2 c3 c4 c5 hdel
      have HF := hide hFk
      have ha1 := ha.frm hfk (by simp)
      have hb1 := hb.frm hfk (by simp)
      have Hdel := hide hdel
      clear hFk hdel
      go_wp2_with fail
      refine (Hdel.out _ ha1 hb1).mono ?_
      rintro e w1 ⟨rfl, hf1⟩
      by_cases hq : outB a b ⟨st, ct, sm, mn, mx, la⟩ = true
      · rw [hq]
        have hqF : outB a b (F k) = true := by rw [HF.out]; exact hq
        have HQ := hide hqF
        clear hq hqF
        go_wp2_with fail
        go_ret
        exact ⟨(k : Int), rfl, .inr ⟨k, rfl, hlt, HQ.out, hall.out⟩, hfk.trans hf1 (by simp)⟩
      · have hq' : outB a b ⟨st, ct, sm, mn, mx, la⟩ = false := by simpa using hq
        rw [hq']
        have hqF : outB a b (F k) = false := by rw [HF.out]; exact hq'
        have HQ := hide hqF
        clear hq hqF hq'
        go_wp2_with fail
        go_roundw
        case measure => simp [intOf]; omega
        case rel =>
          refine ⟨k + 1, by omega, by go_num, hide (fun j hj => ?_), hfk.trans hf1 (by simp)⟩
          by_cases hjk : j = k
          · rw [hjk]; exact HQ.out
          · exact hall.out j (by omega)
    · obtain rfl : k = n := by omega
      go_wp2_with fail
      go_ret
      exact ⟨-1, rfl, .inl ⟨rfl, hall.out⟩, hfk⟩

end Go.Proofs.Ytceidhjgdgnplaa
