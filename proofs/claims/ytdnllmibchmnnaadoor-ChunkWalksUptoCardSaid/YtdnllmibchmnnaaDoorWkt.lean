/-
  chunk.Walk, and its iterator's contract.
-/
import Derived.Test.YtdnllmibchmnnaaDoorRdq
import Derived.RangeFuncNested
import Derived.RangeFuncBound
import Derived.RangeFuncCalls
import Derived.RangeFuncLeaves
import Derived.Shelf.Abstract
import Derived.Shelf.RegionOpen
import Derived.OwnWalkIn
import Derived.TacticsInMore
import Derived.LoopNIn
import Derived.LoopIn
namespace Go.Proofs.YtdnllmibchmnnaaDoor
set_option linter.unusedVariables false
set_option linter.unusedSimpArgs false
open Go.RowKit Go.BigFrame Go.Shelf
attribute [local go_sem] Oper.semAt_some

theorem Frm.ungrown {w w' : World} (h : Frm [] w w') : w.grownBy w' none := ⟨h.os, h.tape, h.output, h.size, fun k hk _ => h.block k hk (by simp)⟩

/-- What a round keeps: the cells of the blocks from n₀ on. -/
def KeepsUp (n₀ : Nat) (W W' : World) : Prop := W.heap.size ≤ W'.heap.size ∧ ∀ k o, n₀ ≤ k → W.heap[k]? = some o → o.isCells = true → W'.heap[k]? = some o
section
variable {n₀ : Nat} {W W' W2 w : World}
theorem KeepsUp.refl (n₀ : Nat) (W : World) : KeepsUp n₀ W W := ⟨Nat.le_refl _, fun _ _ _ h _ => h⟩
theorem KeepsUp.trans (h : KeepsUp n₀ W W') (k : KeepsUp n₀ W' W2) : KeepsUp n₀ W W2 := ⟨Nat.le_trans h.1 k.1, fun j o hj ho hc => k.2 j o hj (h.2 j o hj ho hc) hc⟩
theorem KeepsUp.of_frm {S : List Nat} (h : Frm S W W') (hS : ∀ x ∈ S, x < n₀) : KeepsUp n₀ W W' := ⟨h.size, fun k o hk ho _ => by
  have hlt := (Array.getElem?_eq_some_iff.1 ho).1
  rw [h.block k hlt (fun hm => by have := hS k hm; omega)]; exact ho⟩
theorem keepsUp_b (W : World) (l : Nat) (o o' : Obj) (_ : w.heap.size ≤ l) (h : W.heap[l]? = some o) (hc : o.isCells = false) (_ : o.isWalk = false) : KeepsUp n₀ W (W.putObj l o') := by
  refine ⟨(grownBy_putObj' W l o').size, fun k u hk hu hcu => ?_⟩
  have hne : some k ≠ some l := by
    intro e
    cases e
    rw [h] at hu
    cases hu
    rw [hc] at hcu
    cases hcu
  rw [(grownBy_putObj' W l o').block k (Array.getElem?_eq_some_iff.1 hu).1 hne]
  exact hu
theorem SRow.up {e : TypeId} {v : Value} {n : Nat} {F : Nat → Smp} (h : SRow W e v n F) (hk : KeepsUp n₀ W W') (hn : ∀ g, v.ownBlock = some g → n₀ ≤ g) : SRow W' e v n F := by
  refine ⟨h.1, ?_⟩
  rcases h.2 with h2 | ⟨g', cap, cur, rfl, hb, hh, r⟩
  · exact .inl h2
  · exact .inr ⟨g', cap, cur, rfl, hb, hk.2 g' _ (hn g' rfl) hh rfl, r⟩
end

/-- What has come when k rounds are over. -/
def upto (F : Nat → Smp) (k : Nat) : List Smp := (List.range k).map F
theorem upto_succ (F : Nat → Smp) (k : Nat) : upto F (k + 1) = upto F k ++ [F k] := by simp [upto, List.range_succ]
theorem upto_length (F : Nat → Smp) (k : Nat) : (upto F k).length = k := by simp [upto]

set_option maxHeartbeats 400000 in
theorem cwalk_any (s : ByteArray) (w : World) :
    Calls Tryd.prog 23 #[.string s] w fun e w' => e = .returned (.func (.func 42) #[] #[.pointer (some ⟨w.heap.size, 0, none⟩)]) ∧ w' = w.alloc (.cells #[.string s] 9) := by
  have hmf : ∀ (fn : Fn) (first cap : Array Value) (w : World), (Instr.makeFunc fn first cap).run Tryd.prog w = .ok (.func fn first cap) w := fun _ _ _ _ => rfl
  go_enter Tryd.func23, Tryd.ntmps23
  go_wp2_with fail
  go_ret
  exact ⟨rfl, rfl⟩

set_option maxRecDepth 100000 in
set_option maxHeartbeats 4000000 in
theorem walk1_in (n : Nat) (hn : 1 ≤ n) (l Bs n₀ B : Nat) (s : ByteArray) (hs : s.size ≤ 140737488355328) (J Jx : List Smp → World → Prop) (hJ : AbidesFrom B J)
    (hY : ∀ pre x W, J pre W → pre.length < (rdM (bl s)).1 → YieldAt Fence.wide (n - 1) Tryd.prog l #[.agg #[.int .i64 x.t, .int .u64 (x.v : Int)]] W fun e W' =>
      (e = .returned (.bool true) ∧ J (pre ++ [x]) W' ∧ KeepsUp n₀ W W') ∨ (e = .returned (.bool false) ∧ Jx (pre ++ [x]) W'))
    (W : World) (hn₀ : n₀ ≤ W.heap.size) (hBs : W.cell? ⟨Bs, 0, none⟩ = some (.string s)) (h0 : J [] W) :
    CallsIn Fence.wide n Tryd.prog 42 #[.func (.yield l) #[] #[], .pointer (some ⟨Bs, 0, none⟩)] W fun e W' => (∃ v, e = .returned v) ∧
      ((∃ ys, ys = upto (rdF (rdL (bl s))) (rdM (bl s)).1 ∧ J ys W') ∨ (∃ pre, (∃ k, k ≤ (rdM (bl s)).1 ∧ pre = upto (rdF (rdL (bl s))) k) ∧ Jx pre W')) := by
  have hread := cread_any s hs W
  obtain ⟨cc, _, hm, _⟩ := rdM_form (bl s)
  unfold NewRd at hread
  generalize (rdM (bl s)).1 = m at *
  generalize (rdM (bl s)).2 = er at *
  generalize rdF (rdL (bl s)) = F at *
  have Hread := hide hread
  clear hread
  refine callsIn_of_wp Tryd.func42 rfl trivial ?_ rfl
  simp only [Tryd.ntmps42, List.size_toArray, List.length_cons, List.length_nil, Nat.reduceAdd, Nat.reduceSub, Array.replicate_succ, Array.replicate_zero, List.push_toArray, List.append_toArray, List.nil_append, List.cons_append]
  gi_wp2_with (refine ⟨trivial, ?_⟩; gi_at_call 43; refine (callsIn_wide.2 Hread.out).mono ?_; rintro e W1 ⟨v, rfl, hrow, hfv, hf1⟩; obtain ⟨A, c, rfl⟩ := hrow.shape)
  have hup : ∀ g, (Value.slice A m c).ownBlock = some g → n₀ ≤ g := fun g hg => Nat.le_trans hn₀ (hfv g hg)
  have hJ1 : J [] W1 := hJ [] W W1 none h0 hf1.ungrown (fun r e => by cases e)
  clear hBs Hread
  gi_loopw [14] (fun i wr => ∃ k : Nat, k ≤ m ∧ i = .int .i64 (k : Int) ∧ J (upto F k) wr ∧ SRow wr 37 (.slice A m c) m F) (fun i _ => m - (intOf i).toNat)
  case atStart => exact ⟨0, Nat.zero_le _, rfl, hJ1, hrow⟩
  case round =>
    obtain ⟨k, hk, rfl, hJs, hrw⟩ := hrel
    by_cases hlt : k < m
    · obtain ⟨gu, hA, hgu, hcells⟩ := hrw.blk (by omega)
      subst hA
      have k0 := hcells k 0 hlt (by decide)
      have k1 := hcells k 1 hlt (by decide)
      have l0 : wr.cell? ⟨gu, k * 2, none⟩ = some (.int .i64 (F k).t) := k0
      have l1 : wr.cell? ⟨gu, k * 2 + 1, none⟩ = some (.int .u64 ((F k).v : Int)) := k1
      have hJ2 : J (upto F k) (wr.alloc (.cells #[.int .i64 (F k).t, .int .u64 ((F k).v : Int)] 37)) := hJ _ _ _ none hJs (World.grownBy_alloc _ _ none) (fun r e => by cases e)
      have hrw2 : SRow (wr.alloc (.cells #[.int .i64 (F k).t, .int .u64 ((F k).v : Int)] 37)) 37 (.slice (some ⟨gu, 0, none⟩) m c) m F := hrw.quiet ((Frm.refl [] wr).alloc _)
      obtain ⟨fn, tmps, assign, body, hy, hR⟩ := hY _ (F k) _ hJ2 (by rw [upto_length]; exact hlt)
      have hw : wrap64 ((k : Int) + 1) = (k : Int) + 1 := by unfold wrap64; omega
      clear k0 k1 hcells
      gi_wp2
      refine hR.mono ?_
      rintro e W3 (⟨rfl, hJ3, hk3⟩ | ⟨rfl, hJx3⟩)
      · gi_wp2
        go_roundw
        case rel => exact ⟨k + 1, by omega, by go_num, by rw [upto_succ]; exact hJ3, hrw2.up hk3 hup⟩
        case measure => simp [intOf]; omega
      · gi_wp2
        refine bodyPost_ret (results_none rfl _ _ _) rfl ?_
        exact ⟨⟨_, rfl⟩, .inr ⟨_, ⟨k + 1, by omega, (upto_succ _ _).symm⟩, hJx3⟩⟩
    · obtain rfl : k = m := by omega
      gi_wp2
      go_end0
      exact ⟨⟨_, rfl⟩, .inl ⟨_, rfl, hJs⟩⟩

theorem walk_stops (n : Nat) (hn : 1 ≤ n) (Bs n₀ : Nat) (s : ByteArray) (hs : s.size ≤ 140737488355328) (w : World) (hBs : Bs < w.heap.size) (hn₀ : n₀ ≤ w.heap.size) (hc : w.cell? ⟨Bs, 0, none⟩ = some (.string s)) :
    SeqStopsK Fence.wide n Tryd.prog 42 #[.pointer (some ⟨Bs, 0, none⟩)] (fun x : Smp => #[Value.agg #[.int .i64 x.t, .int .u64 (x.v : Int)]]) (KeepsUp n₀) (fun ys => ys = upto (rdF (rdL (bl s))) (rdM (bl s)).1)
      (fun pre => ∃ k, k ≤ (rdM (bl s)).1 ∧ pre = upto (rdF (rdL (bl s))) k) (rdM (bl s)).1 w := fun l J Jx W hW hJ _ hY h0 =>
  walk1_in n hn l Bs n₀ W.heap.size s hs J Jx hJ hY W (Nat.le_trans hn₀ hW.size) ((hW.cell (p := ⟨Bs, 0, none⟩) hBs).trans hc) h0

end Go.Proofs.YtdnllmibchmnnaaDoor
