/-
  AggBetween's walk: the windows between two times are the document's, of any list; new memory.
-/
import Derived.Test.YtceidhjgdgnplaaDelw
namespace Go.Proofs.Ytceidhjgdgnplaa
set_option linter.unusedVariables false
set_option linter.unusedSimpArgs false
open Go.RowKit Go.BigFrame

set_option maxRecDepth 100000 in
set_option maxHeartbeats 2000000 in
theorem rbetween_any (a b : Int) (A : Option Addr) (n cap : Nat) (F : Nat → Win) (hn : n * 48 ≤ 140737488351232) (w : World) (hc : CellsAt w A n 6 (fun i j => (F i).cell j)) :
    Calls Try.prog 31 #[.int .i64 a, .int .i64 b, .slice A n cap] w (NewRow 84 (kept F (fun x => !outB a b x) n).length (keptW F (fun x => !outB a b x) n) w) := by
  obtain ⟨q, hq⟩ : ∃ q : Win → Bool, q = fun x => !outB a b x := ⟨_, rfl⟩
  rw [← hq]
  have Hq := hide hq
  clear hq
  go_enter Try.func31, Try.ntmps31
  go_wp2
  go_loopw [7, 8] (fun x i wr => ∃ k : Nat, k ≤ n ∧ i = .int .i64 (k : Int) ∧ WRow wr 84 x (kept F q k).length (keptW F q k) ∧ Fresh w.heap.size x ∧ Frm [] w wr) (fun _ i _ => n - (intOf i).toNat)
  case atStart => exact ⟨0, by omega, rfl, WRow.nil _ _ _, Fresh.nil _, Frm.refl _ _⟩
  case round =>
    obtain ⟨k, hk, rfl, hrow, hfr, hf⟩ := hrel
    obtain ⟨A1, c1, rfl⟩ := hrow.shape
    have hkl := kept_le F q k
    by_cases hlt : k < n
    · obtain ⟨sb, off, rfl, hsb, c0, c1', c2, c3, c4, c5⟩ := cells6 (hc.frm hf) hlt
      have b1 : (0 : Int) ≤ (k : Int) := by omega
      have b2 : (k : Int) < (n : Int) := by omega
      have hq0 : q (F k) = !outB a b (F k) := by rw [Hq.out]
      have hqs : outB a b (F k) = (decide ((F k).st < a) || decide (b < (F k).st)) := rfl
      by_cases h1 : (F k).st < a
      · have hqn : q (F k) = false := by rw [hq0, hqs]; simp [h1]
        have HK := hide (kept_no hqn)
        generalize F k = x at c0 c1' c2 c3 c4 c5 h1
        obtain ⟨st, ct, sm, mn, mx, la⟩ := x
        simp only at c0 c1' c2 c3 c4 c5 h1
        clear hq0 hqs hqn
        go_wp2
        go_roundw
        case measure => simp [intOf]; omega
        case rel =>
          refine ⟨k + 1, by omega, by go_num, ?_, hfr, hf⟩
          unfold keptW
          rw [HK.out]
          exact hrow
      · by_cases h2 : b < (F k).st
        · have hqn : q (F k) = false := by rw [hq0, hqs]; simp [h2]
          have HK := hide (kept_no hqn)
          generalize F k = x at c0 c1' c2 c3 c4 c5 h1 h2
          obtain ⟨st, ct, sm, mn, mx, la⟩ := x
          simp only at c0 c1' c2 c3 c4 c5 h1 h2
          have h3 : a ≤ st := by omega
          clear hq0 hqs hqn
          go_wp2
          go_roundw
          case measure => simp [intOf]; omega
          case rel =>
            refine ⟨k + 1, by omega, by go_num, ?_, hfr, hf⟩
            unfold keptW
            rw [HK.out]
            exact hrow
        · have hqy : q (F k) = true := by rw [hq0, hqs]; simp [h1, h2]
          have hl := keptW_last hqy
          have hrow1 : WRow wr 84 (.slice A1 (kept F q k).length c1) (kept F q k).length (keptW F q (k + 1)) := hrow.congr (fun i hi => (keptW_snoc hqy i hi).symm)
          obtain ⟨v', w2, hr, hown, hf2, hg2⟩ := append_win (ty := 55) Try.underlying55 winfor wr hrow1 (F k) hl (by omega)
          have HK := hide (kept_yes hqy)
          generalize F k = x at c0 c1' c2 c3 c4 c5 h1 h2 hr HK
          obtain ⟨st, ct, sm, mn, mx, la⟩ := x
          simp only at c0 c1' c2 c3 c4 c5 h1 h2
          simp only [Win.arr] at hr
          have h3 : a ≤ st := by omega
          have h4 : st ≤ b := by omega
          have Hr := hide hr
          clear hq0 hqs hqy hl hr
          generalize hln : (kept F q k).length = ln at *
          have Hln := hide hln
          clear hln
          go_wp2_with (at_builtin; refine wp_append_known rfl (.tmp 31) (.tmp 36) 55 55 rfl rfl rfl Hr.out ?_)
          go_roundw
          case measure => simp [intOf]; omega
          case rel =>
            refine ⟨k + 1, by omega, by go_num, ?_, hfr.grew hg2 hf.size, hf.trans hf2 hfr.row⟩
            rw [HK.out, List.length_append, Hln.out]
            exact hown
    · obtain rfl : k = n := by omega
      go_wp2
      go_ret
      exact ⟨_, rfl, hrow, hfr, hf⟩

set_option maxRecDepth 100000 in
set_option maxHeartbeats 4000000 in
theorem abtw_walk (a b : Int) (A : Option Addr) (n cap : Nat) (F : Nat → Win) (hn : n * 48 ≤ 140737488351232) (w : World) (hc : CellsAt w A n 6 (fun i j => (F i).cell j)) :
    Calls Try.prog 9 #[.int .i64 a, .int .i64 b, .slice A n cap] w fun e w' => e = .returned (.bool true) ∧ Frm [] w w' := by
  have hkl := kept_le F (fun x => !outB a b x) n
  have hb := fun (A : Option Addr) (cap : Nat) (W : World) hc => between_any a b A n cap F hn W hc
  have hr := fun (A : Option Addr) (cap : Nat) (W : World) hc => rbetween_any a b A n cap F hn W hc
  unfold NewKept at hb
  unfold NewRow at hr
  generalize keptW F (fun x => !outB a b x) n = K at hb hr
  generalize (kept F (fun x => !outB a b x) n).length = m at hb hr hkl
  have Hb := hide hb
  have Hr := hide hr
  have hm : m * 48 ≤ 140737488351232 := by omega
  clear hb hr
  go_enter Try.func9, Try.ntmps9
  go_wp2_with fail
  refine (twin_any A n cap F hn _ hc).mono ?_
  rintro e w1 ⟨v0, rfl, g0, fr0, hf1⟩
  obtain ⟨A0, c0, rfl⟩ := g0.shape
  go_wp2_with fail
  refine (Hb.out A0 c0 w1 g0.cellsAt).mono ?_
  rintro e w2 ⟨Aa, ca, rfl, ra, fra, hf2⟩
  have g02 := g0.quiet hf2
  go_wp2_with fail
  refine (Hb.out A0 c0 w2 g02.cellsAt).mono ?_
  rintro e w3 ⟨Ab, cb, rfl, rb, frb, hf3⟩
  have hf13 := (hf1.trans hf2 (by simp)).trans hf3 (by simp)
  go_wp2_with fail
  refine (windows_any A n cap F hn _ (hc.frm hf13)).mono ?_
  rintro e w4 ⟨v4, rfl, r4, fr4, hf4⟩
  obtain ⟨A4, c4, rfl⟩ := r4.shape
  go_wp2_with fail
  refine (Hr.out A4 c4 w4 r4.cellsAt).mono ?_
  rintro e w5 ⟨v5, rfl, r5, fr5, hf5⟩
  obtain ⟨A5, c5, rfl⟩ := r5.shape
  go_wp2_with fail
  refine (wakw_any _).mono ?_
  rintro e w6 ⟨rfl, hf6⟩
  have ra6 := (((ra.quiet hf3).quiet hf4).quiet hf5).quiet hf6
  have rb6 := ((rb.quiet hf4).quiet hf5).quiet hf6
  have r56 := r5.quiet hf6
  go_wp2_with fail
  refine (alike_any Aa m ca K A5 c5 hm _ ra6.cellsAt r56.cellsAt).mono ?_
  rintro e w7 ⟨rfl, hf7⟩
  have ra7 := ra6.quiet hf7
  have rb7 := rb6.quiet hf7
  have r57 := r56.quiet hf7
  go_wp2_with fail
  refine (alike_any Ab m cb K A5 c5 hm _ rb7.cellsAt r57.cellsAt).mono ?_
  rintro e w8 ⟨rfl, hf8⟩
  have ra8 := ra7.quiet hf8
  have rb8 := rb7.quiet hf8
  have r58 := r57.quiet hf8
  have hf28 : Frm [] w2 w8 := ((((((hf3.trans hf4 (by simp)).trans hf5 (by simp)).trans hf6 (by simp)).trans hf7 (by simp)).trans hf8 (by simp)))
  have g08 := g02.quiet hf28
  have hf08 : Frm [] w w8 := (hf1.trans hf2 (by simp)).trans hf28 (by simp)
  -- the rows lie apart from a's
  have d0 : ∀ x, (Value.slice A0 n c0).ownBlock = some x → x ∉ (Value.slice Aa m ca).ownBlock.toList := fun x hx hy => by
    have h1 := g0.lt hx
    have h2 := fra x (by simpa using hy)
    omega
  have db : ∀ x, (Value.slice Ab m cb).ownBlock = some x → x ∉ (Value.slice Aa m ca).ownBlock.toList := fun x hx hy => by
    have h1 := ra.lt (by simpa using hy)
    have h2 := frb x hx
    omega
  have d5 : ∀ x, (Value.slice A5 m c5).ownBlock = some x → x ∉ (Value.slice Aa m ca).ownBlock.toList := fun x hx hy => by
    have h1 := ra.lt (by simpa using hy)
    have h2 := fr5 x hx
    have h3 := (hf3.trans hf4 (by simp)).size
    omega
  have da : ∀ x ∈ (Value.slice Aa m ca).ownBlock.toList, x ∈ ([] : List Nat) ∨ w.heap.size ≤ x := fun x hx => by
    have h2 := fra x (by simpa using hx)
    have h3 := hf1.size
    exact .inr (by omega)
  clear ra ra6 ra7 rb rb6 rb7 r5 r56 r57 g0 g02 r4 hf1 hf2 hf3 hf4 hf5 hf6 hf7 hf8 hf13 hf28 fra frb fr5 fr0 fr4
  go_wp2_with fail
  go_loopw [43] (fun i wr => ∃ (k : Nat) (H : Nat → Win), k ≤ m ∧ i = .int .i64 (k : Int) ∧ WRow wr 62 (.slice Aa m ca) m H ∧ Frm (Value.slice Aa m ca).ownBlock.toList w8 wr) (fun i _ => m - (intOf i).toNat)
  case atStart => exact ⟨0, K, by omega, rfl, ra8, Frm.refl _ _⟩
  case round =>
    obtain ⟨k, H, hk, rfl, hR, hfk⟩ := hrel
    by_cases hlt : k < m
    · obtain ⟨g, rfl, hg, hcell⟩ := hR.blk (by omega)
      have hS := hR.store k hlt ⟨-77, 0, 0, 0, 0, 0⟩
      have y0 : wr.cell? ⟨g, k * 6, none⟩ = some ((H k).cell 0) := hcell k 0 hlt (by decide)
      have y1 := hcell k 1 hlt (by decide)
      have y2 := hcell k 2 hlt (by decide)
      have y3 := hcell k 3 hlt (by decide)
      have y4 := hcell k 4 hlt (by decide)
      have y5 := hcell k 5 hlt (by decide)
      have f0 := hR.frozen (k * 6)
      have f1 := hR.frozen (k * 6 + 1)
      have f2 := hR.frozen (k * 6 + 2)
      have f3 := hR.frozen (k * 6 + 3)
      have f4 := hR.frozen (k * 6 + 4)
      have f5 := hR.frozen (k * 6 + 5)
      have b1 : (0 : Int) ≤ (k : Int) := by omega
      have b2 : (k : Int) < (m : Int) := by omega
      have hFE : ∀ u0 u1 u2 u3 u4 u5, Frm (Value.slice (some ⟨g, 0, none⟩) m ca).ownBlock.toList w8 ((((((wr.setCell ⟨g, k * 6, none⟩ u0).setCell ⟨g, k * 6 + 1, none⟩ u1).setCell ⟨g, k * 6 + 2, none⟩ u2).setCell ⟨g, k * 6 + 3, none⟩ u3).setCell ⟨g, k * 6 + 4, none⟩ u4).setCell ⟨g, k * 6 + 5, none⟩ u5) := by
        have hm : ∀ (W : World) (p : Nat) (u : Value), Frm (Value.slice (some ⟨g, 0, none⟩) m ca).ownBlock.toList w8 W → Frm (Value.slice (some ⟨g, 0, none⟩) m ca).ownBlock.toList w8 (W.setCell ⟨g, p, none⟩ u) := fun W p u h => h.setCell (p := ⟨g, p, none⟩) (.inl (by simp [Value.ownBlock])) u
        intro u0 u1 u2 u3 u4 u5
        exact hm _ _ _ (hm _ _ _ (hm _ _ _ (hm _ _ _ (hm _ _ _ (hm _ _ _ hfk)))))
      have HE := hide (And.intro hS hFE)
      clear hcell hS hFE
      go_wp2_with fail
      go_roundw
      case measure => simp [intOf]; omega
      case rel => exact ⟨k + 1, atW H k ⟨-77, 0, 0, 0, 0, 0⟩, by omega, by go_num, HE.out.1, HE.out.2 _ _ _ _ _ _⟩
    · obtain rfl : k = m := by omega
      have rbk := rb8.frm hfk db
      have r5k := r58.frm hfk d5
      have g0k := g08.frm hfk d0
      have hfw := hf08.trans hfk da
      go_wp2_with fail
      refine (alike_any Ab k cb K A5 c5 hm _ rbk.cellsAt r5k.cellsAt).mono ?_
      rintro e x1 ⟨rfl, hx1⟩
      go_wp2_with fail
      refine (windows_any A n cap F hn _ (hc.frm (hfw.trans hx1 (by simp)))).mono ?_
      rintro e x2 ⟨v9, rfl, r9, fr9, hx2⟩
      obtain ⟨A9, c9, rfl⟩ := r9.shape
      have g0x := (g0k.quiet hx1).quiet hx2
      go_wp2_with fail
      refine (alike_any A0 n c0 F A9 c9 hn _ g0x.cellsAt r9.cellsAt).mono ?_
      rintro e x3 ⟨rfl, hx3⟩
      go_wp2_with fail
      go_ret
      exact ⟨rfl, ((hfw.trans hx1 (by simp)).trans hx2 (by simp)).trans hx3 (by simp)⟩

end Go.Proofs.Ytceidhjgdgnplaa
