/-
  The writer's Put: what it does to the writer in memory.
-/
import Derived.Test.YtdnllmibchmnnaaDoorPutLem
namespace Go.Proofs.YtdnllmibchmnnaaDoor
set_option linter.unusedVariables false
set_option linter.unusedSimpArgs false
open Go.RowKit

theorem put_own {w : World} {g r m cap : Nat} {v v' : Value} (hv : v' = .slice (some ⟨r, 0, none⟩) m cap) (h : v'.ownBlock = v.ownBlock ∨ ∃ k, v'.ownBlock = some k ∧ w.heap.size ≤ k) :
    r ∈ g :: v.ownBlock.toList ∨ w.heap.size ≤ r := by
  subst hv
  rcases h with h | ⟨k, h, hk⟩
  · left; rw [← h]; simp [Value.ownBlock]
  · right
    have : r = k := by simpa [Value.ownBlock] using h
    omega

theorem put_frm {w wr w1 : World} {g : Nat} {v v' : Value} (hfr : Frm (g :: v.ownBlock.toList) w wr) (h : v'.ownBlock = v.ownBlock ∨ ∃ k, v'.ownBlock = some k ∧ w.heap.size ≤ k) (hf : Frm v'.ownBlock.toList wr w1) :
    Frm (g :: v.ownBlock.toList) w w1 :=
  hfr.trans hf fun x hx => by
    rcases h with h | ⟨k, h, hk⟩
    · left; rw [← h]; exact List.mem_cons_of_mem _ hx
    · right
      have : x = k := by simpa [h] using hx
      omega
theorem put_new {w wr : World} {r m cap : Nat} {v v' : Value} (hsz : w.heap.size ≤ wr.heap.size) (h : v'.ownBlock = v.ownBlock ∨ ∃ k, v'.ownBlock = some k ∧ w.heap.size ≤ k) (hat : v'.ownBlock = some r ∨ wr.heap.size ≤ r) :
    (Value.slice (some ⟨r, 0, none⟩) m cap).ownBlock = v.ownBlock ∨ ∃ k, (Value.slice (some ⟨r, 0, none⟩) m cap).ownBlock = some k ∧ w.heap.size ≤ k := by
  rcases hat with hat | hat
  · rcases h with h | ⟨k, h, hk⟩
    · left; rw [← h, hat]; rfl
    · right
      have : r = k := by rw [hat] at h; simpa using h
      exact ⟨r, rfl, by omega⟩
  · exact .inr ⟨r, rfl, by omega⟩

theorem row_last {w : World} {r cap : Nat} {l : List Bool} {i : Nat} (h : w.ownsRow 0 5 1 (.slice (some ⟨r, 0, none⟩) ((pack l).length + 1) cap) ((pack l).length + 1) (u8s (pack l) ++ [.int .u8 0])) (hi : i = (pack l).length) :
    w.cell? ⟨r, i, none⟩ = some (.int .u8 0) := by
  rw [h.cellAt i (by omega), hi, List.getElem?_append_right (by simp [u8s])]
  simp [u8s]

set_option maxRecDepth 100000 in
set_option maxHeartbeats 1000000 in
theorem put_any (g t : Nat) (rest : List Value) (v : Value) (l : List Bool) (x : Nat) (n : Int) (hx : x < 18446744073709551616) (hg : t ≠ 5) (hl : l.length ≤ 1125899906842624) (hl8 : (pack l).length + 9 ≤ 140737488355328) (w : World) (hw : WriterAt w g t rest v l) :
    Calls Tryd.prog 27 #[.pointer (some ⟨g, 0, none⟩), .int .u64 (x : Int), .int .i64 n] w fun e w' => e = .returned (.tuple #[]) ∧
      ∃ v', WriterAt w' g t rest v' (l ++ bitsOf x (wid n)) ∧ Frm (g :: v.ownBlock.toList) w w' ∧ (v'.ownBlock = v.ownBlock ∨ ∃ k, v'.ownBlock = some k ∧ w.heap.size ≤ k) := by
  obtain ⟨i0, hi0, hz0, hz1, hz2⟩ := info_parts u8info
  go_enter Tryd.func27, Tryd.ntmps27
  go_wp2_with (go_at_call 45; refine (width_any _ _).mono ?_; rintro e w' ⟨rfl, rfl⟩)
  go_loopw [2] (fun m wr => ∃ (k : Nat) (v' : Value) (l' : List Bool), k ≤ 64 ∧ m = .int .i64 k ∧ l' ++ bitsOf x k = l ++ bitsOf x (wid n) ∧ WriterAt wr g t rest v' l' ∧ Frm (g :: v.ownBlock.toList) w wr ∧ (v'.ownBlock = v.ownBlock ∨ ∃ k, v'.ownBlock = some k ∧ w.heap.size ≤ k))
    (fun m _ => (intOf m).toNat)
  case atStart => exact ⟨wid n, v, l, by unfold wid; omega, by unfold wid; go_num, rfl, hw, Frm.refl _ _, .inl rfl⟩
  case round =>
    obtain ⟨k, v', l', hk, rfl, hall, hwr, hfr, hown⟩ := hrel
    have hall2 := congrArg List.length hall
    simp only [List.length_append, bitsOf_length] at hall2
    have hw64 : wid n ≤ 64 := by unfold wid; omega
    have hl2 : l'.length ≤ l.length + 64 := by omega
    have hpl := pack_length l'
    have hpl0 := pack_length l
    have hpl2 : (pack l').length + 1 ≤ 140737488355328 := by omega
    have hgw := hwr.blk.lt
    have Hpl := hide hpl
    have Hall := hide hall
    clear hall hall2 hpl hpl0
    by_cases hk0 : 0 < k
    · have h0 : wr.cell? ⟨g, 0, none⟩ = some v' := hwr.blk.cell 0
      have h1 : wr.cell? ⟨g, 1, none⟩ = some (.int .i64 (l'.length : Nat)) := hwr.blk.cell 1
      have f0 := hwr.blk.frozen 0
      have f1 := hwr.blk.frozen 1
      have hbt := bit_test x (k - 1) hx
      have hstep : ∀ b, x.testBit (k - 1) = b → l' ++ [b] ++ bitsOf x (k - 1) = l ++ bitsOf x (wid n) := fun b e => by
        rw [← Hall.out, bitsOf_pred x k hk0, e, List.append_assoc]; rfl
      have Hstep := hide hstep
      clear hstep
      by_cases hm : l'.length % 8 = 0
      · have hgo : g ∉ v'.ownBlock.toList := by
          have := own_blk_ne hwr.own hwr.blk (Ne.symm hg)
          intro h; cases hv : v'.ownBlock <;> simp_all
        have hi : l'.length / 8 = (pack l').length := by have := Hpl.out; omega
        have Hi := hide hi
        have Hm := hide hm
        have hm8 : ((l'.length : Int) % 8 == 0) = true := by rw [beq_iff_eq]; omega
        clear hi hm
        by_cases hb : x.testBit (k - 1) = true
        · rw [hb] at hbt
          have Hb := hide hb
          clear hb
          go_wp2_with (at_builtin; refine wp_append1 rfl (.tmp 24) (.tmp 25) 40 5 rfl Tryd.underlying40 hi0 hz0 hz1 hz2 rfl v' _ _ rfl hwr.own (.int .u8 0) 1 rfl rfl (by unfold maxLen; omega) (by omega) ?_; intro r cap w1 hown1 hf1 hat1; have hb1 := hwr.blk.frm hf1 hgo; have c0 : w1.cell? ⟨g, 0, none⟩ = some v' := hb1.cell 0; have c1 : w1.cell? ⟨g, 1, none⟩ = some (.int .i64 (l'.length : Nat)) := hb1.cell 1; have d0 := hb1.frozen 0; have d1 := hb1.frozen 1; have hne : r ≠ g := (fun e => own_blk_ne hown1 hb1 (Ne.symm hg) (by rw [e]; rfl)); have hne' : g ≠ r := Ne.symm hne; have hcell : w1.cell? ⟨r, l'.length / 8, none⟩ = some (.int .u8 0) := row_last hown1 Hi.out; have hfz : w1.frozen? ⟨r, l'.length / 8, none⟩ = false := hown1.frozenAt _; have hlt : l'.length / 8 < (pack l').length + 1 := (by have := Hi.out; omega))
          go_region
          go_wp2
          go_roundw
          case measure => simp [intOf]; omega
          case rel =>
            have hw1 := put_frm hfr hown hf1
            have hrS := put_new (m := (pack l').length + 1) (cap := cap) hfr.size hown hat1
            exact ⟨k - 1, .slice (some ⟨r, 0, none⟩) _ cap, l' ++ [true], by omega, by go_num, Hstep.out _ Hb.out, (close_new_true hb1 hown1 Hm.out hne).drew, (((hw1.setCell (.inl (List.mem_cons_self ..)) _).setCell (put_own (g := g) rfl hrS) _).setCell (.inl (List.mem_cons_self ..)) _).drew, hrS⟩
        · have hb' : x.testBit (k - 1) = false := by simpa using hb
          rw [hb'] at hbt
          have Hb := hide hb'
          clear hb hb'
          go_wp2_with (at_builtin; refine wp_append1 rfl (.tmp 24) (.tmp 25) 40 5 rfl Tryd.underlying40 hi0 hz0 hz1 hz2 rfl v' _ _ rfl hwr.own (.int .u8 0) 1 rfl rfl (by unfold maxLen; omega) (by omega) ?_; intro r cap w1 hown1 hf1 hat1; have hb1 := hwr.blk.frm hf1 hgo; have c0 : w1.cell? ⟨g, 0, none⟩ = some v' := hb1.cell 0; have c1 : w1.cell? ⟨g, 1, none⟩ = some (.int .i64 (l'.length : Nat)) := hb1.cell 1; have d0 := hb1.frozen 0; have d1 := hb1.frozen 1; have hne : r ≠ g := (fun e => own_blk_ne hown1 hb1 (Ne.symm hg) (by rw [e]; rfl)); have hne' : g ≠ r := Ne.symm hne; have hcell : w1.cell? ⟨r, l'.length / 8, none⟩ = some (.int .u8 0) := row_last hown1 Hi.out; have hfz : w1.frozen? ⟨r, l'.length / 8, none⟩ = false := hown1.frozenAt _; have hlt : l'.length / 8 < (pack l').length + 1 := (by have := Hi.out; omega))
          go_roundw
          case measure => simp [intOf]; omega
          case rel =>
            have hw1 := put_frm hfr hown hf1
            have hrS := put_new (m := (pack l').length + 1) (cap := cap) hfr.size hown hat1
            exact ⟨k - 1, .slice (some ⟨r, 0, none⟩) _ cap, l' ++ [false], by omega, by go_num, Hstep.out _ Hb.out, close_new_false hb1 hown1 Hm.out hne, (hw1.setCell (.inl (List.mem_cons_self ..)) _).setCell (.inl (List.mem_cons_self ..)) _, hrS⟩
      · obtain ⟨r, cap, cur, rfl, hr, hc1, hc2, hc3, hc4⟩ := own_form hwr.own (by have := Hpl.out; omega)
        have hi : l'.length / 8 < (pack l').length := by have := Hpl.out; omega
        have hcell : wr.cell? ⟨r, l'.length / 8, none⟩ = _ := (hwr.own.cellAt (l'.length / 8) (by omega)).trans (u8s_get _ _ hi)
        have hfz : wr.frozen? ⟨r, l'.length / 8, none⟩ = false := hwr.own.frozenAt _
        have hne : r ≠ g := fun e => own_blk_ne hwr.own hwr.blk (Ne.symm hg) (by rw [e]; rfl)
        have hne' : g ≠ r := Ne.symm hne
        have hrS := put_own (g := g) rfl hown
        generalize hy : (pack l').getD (l'.length / 8) 0 = y at hcell
        have Hy := hide hy
        clear hc3 hc4 hy
        by_cases hb : x.testBit (k - 1) = true
        · rw [hb] at hbt
          have Hb := hide hb
          clear hb
          go_wp2
          go_region
          go_wp2
          go_roundw
          case measure => simp [intOf]; omega
          case rel => exact ⟨k - 1, .slice (some ⟨r, 0, none⟩) _ cap, l' ++ [true], by omega, by go_num, Hstep.out _ Hb.out, (close_in_true hwr hm hne y Hy.out).drew, ((hfr.setCell hrS _).setCell (.inl (List.mem_cons_self ..)) _).drew, hown⟩
        · have hb' : x.testBit (k - 1) = false := by simpa using hb
          rw [hb'] at hbt
          have Hb := hide hb'
          clear hb hb'
          go_wp2
          go_roundw
          case measure => simp [intOf]; omega
          case rel => exact ⟨k - 1, .slice (some ⟨r, 0, none⟩) _ cap, l' ++ [false], by omega, by go_num, Hstep.out _ Hb.out, close_in_false hwr hm hne, hfr.setCell (.inl (List.mem_cons_self ..)) _, hown⟩
    · go_wp2
      go_end0
      obtain rfl : k = 0 := by omega
      have e := Hall.out
      simp only [bitsOf, List.append_nil] at e
      subst e
      exact ⟨rfl, v', hwr, hfr, hown⟩

end Go.Proofs.YtdnllmibchmnnaaDoor
