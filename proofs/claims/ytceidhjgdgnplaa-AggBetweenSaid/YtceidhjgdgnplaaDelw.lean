/-
  The contracts of slices.DeleteFunc at windows and of agg.Between.
-/
import Derived.Test.YtceidhjgdgnplaaBtw
namespace Go.Proofs.Ytceidhjgdgnplaa
set_option linter.unusedVariables false
set_option linter.unusedSimpArgs false
open Go.RowKit Go.BigFrame

theorem winzero : ∀ w, (zeroValue 62).run Try.prog w = .ok winZ w := by
  intro w
  obtain ⟨i0, hi0, hz0, _, _⟩ := info_parts wininfo
  simp [zeroValue, typeInfo, hi0, hz0]

/-- clear of the end of a row. -/
theorem clear_wins {w : World} {g n c : Nat} {F : Nat → Win} (h : WRow w 62 (.slice (some ⟨g, 0, none⟩) n c) n F) (i : Nat) (hi : i < n) (c' : Nat) (ty : TypeId) :
    (Builtin.clear_ #[48] ty #[.slice (some ⟨g, i * 6, none⟩) (n - i) c']).run Try.prog w = .ok (.tuple #[]) (w.setCells g (i * 6) (Builtin.zeroCells winZ.cells (n - i)).toList) := by
  obtain ⟨g', he, hg, hcell⟩ := h.blk (by omega)
  simp only [Option.some.injEq, Addr.mk.injEq, and_true] at he
  subst he
  have hlen : (Builtin.zeroCells winZ.cells (n - i)).toList.length = (n - i) * 6 := by
    rw [Array.length_toList, size_zeroCells]
    rfl
  have hst := run_storeCells_cells (P := Try.prog) g (i * 6) (Builtin.zeroCells winZ.cells (n - i)).toList 0 w
    (fun j hj => by
      rw [hlen] at hj
      have hq := hcell (i + j / 6) (j % 6) (by omega) (Nat.mod_lt _ (by decide))
      rw [show i * 6 + 0 + j = (i + j / 6) * 6 + j % 6 from by omega, hq]
      rfl)
    (fun j hj => h.frozen _)
    (by
      intro v hv
      simp only [Builtin.zeroCells, Array.toList_map, List.mem_map] at hv
      obtain ⟨k, _, rfl⟩ := hv
      have hz : winZ.cells = #[.int .i64 0, .int .i64 0, .int .u64 0, .int .u64 0, .int .u64 0, .int .u64 0] := rfl
      rw [hz]
      have : k % (#[Value.int .i64 0, .int .i64 0, .int .u64 0, .int .u64 0, .int .u64 0, .int .u64 0] : Array Value).size < 6 := Nat.mod_lt _ (by decide)
      generalize k % (#[Value.int .i64 0, .int .i64 0, .int .u64 0, .int .u64 0, .int .u64 0, .int .u64 0] : Array Value).size = r at this
      obtain rfl | rfl | rfl | rfl | rfl | rfl : r = 0 ∨ r = 1 ∨ r = 2 ∨ r = 3 ∨ r = 4 ∨ r = 5 := by omega
      all_goals rfl)
  simp only [Nat.add_zero] at hst
  obtain ⟨m, hm⟩ : ∃ m, n - i = m + 1 := ⟨n - i - 1, by omega⟩
  rw [hm] at hst ⊢
  simp [Builtin.clear_, run_underlying Try.underlying48, winzero]
  show ((Sem.run Try.prog (storeCells ⟨g, i * 6, none⟩ (Builtin.zeroCells winZ.cells (m + 1)).toList) w).andThen fun a w' => Result.ok (Value.tuple #[]) w') = _
  rw [hst]
  rfl

/-- What DeleteFunc tells: the row of those that are kept, in the memory of the row that was handed in. -/
def tellK (F : Nat → Win) (q : Win → Bool) (n : Nat) (v : Value) (w : World) (e : Ending) (w' : World) : Prop :=
  ∃ (A : Option Addr) (c : Nat), e = .returned (.slice A (kept F q n).length c) ∧ WRow w' 62 (.slice A (kept F q n).length c) (kept F q n).length (keptW F q n) ∧ Frm v.ownBlock.toList w w' ∧ (∀ k, (Value.slice A (kept F q n).length c).ownBlock = some k → v.ownBlock = some k)

theorem kept_id {F : Nat → Win} {q : Win → Bool} {n : Nat} (h : ∀ i, i < n → q (F i) = true) : (kept F q n).length = n ∧ ∀ i, i < n → F i = keptW F q n i := by
  have e := kept_all h
  refine ⟨by rw [e]; simp, fun i hi => ?_⟩
  unfold keptW
  rw [e]
  simp [hi]

set_option maxRecDepth 100000 in
set_option maxHeartbeats 4000000 in
theorem delete_any (A : Option Addr) (n cap : Nat) (F : Nat → Win) (ba bb : Nat) (a b : Int) (hn : n * 48 ≤ 140737488351232) (w : World) (hrow : WRow w 62 (.slice A n cap) n F) (ha : Blk w ba 2 #[.int .i64 a]) (hb : Blk w bb 2 #[.int .i64 b]) :
    Calls Try.prog 44 #[.slice A n cap, .func (.func 45) #[] #[.pointer (some ⟨ba, 0, none⟩), .pointer (some ⟨bb, 0, none⟩)]] w (tellK F (fun x => !outB a b x) n (.slice A n cap) w) := by
  obtain ⟨q, hq⟩ : ∃ q : Win → Bool, q = fun x => !outB a b x := ⟨_, rfl⟩
  rw [← hq]
  have Hq := hide hq
  clear hq
  go_enter Try.func44, Try.ntmps44
  go_wp2_with fail
  refine (index_any A n cap F ba bb a b hn w hrow.cellsAt ha hb).mono ?_
  rintro e w1 ⟨i, rfl, hfirst, hf1⟩
  have hrow1 := hrow.quiet hf1
  have ha1 := ha.frm hf1 (by simp)
  have hb1 := hb.frm hf1 (by simp)
  rcases hfirst with ⟨rfl, hall⟩ | ⟨k, rfl, hk, hqk, hall⟩
  · have hid := kept_id (q := q) (F := F) (n := n) (fun i hi => by rw [Hq.out]; simp [hall i hi])
    have Hid' := hide hid
    clear hall hid
    go_wp2_with fail
    go_ret
    refine ⟨A, cap, by rw [Hid'.out.1]; rfl, ?_, hf1.mono (by simp), ?_⟩
    · rw [Hid'.out.1]
      exact hrow1.congr (fun i hi => Hid'.out.2 i hi)
    · intro k hk
      cases A with
      | none => simp [Value.ownBlock] at hk
      | some ad => exact hk
  · obtain ⟨g, rfl, hg, hcell⟩ := hrow1.blk (by omega)
    obtain ⟨hnc, hcm⟩ : n ≤ cap ∧ cap ≤ maxLen := by
      obtain ⟨g', cap', cur, he, _, h1, h2, _⟩ := own_form hrow1 (by omega)
      simp only [Value.slice.injEq] at he
      obtain ⟨_, _, rfl⟩ := he
      exact ⟨h1, h2⟩
    have hz : (((k : Nat) : Int) == -1) = false := by rw [beq_eq_false_iff_ne]; omega
    have hkq : ∀ i, i < k → q (F i) = true := fun i hi => by rw [Hq.out]; simp [hall i hi]
    have hkn : q (F k) = false := by rw [Hq.out]; simp [hqk]
    have hk1 : kept F q (k + 1) = kept F q k := kept_no hkn
    have hid := kept_id hkq
    have H1 := hide (show (kept F q (k + 1)).length = k by rw [hk1]; exact hid.1)
    have H2 := hide (show ∀ i, i < k → F i = keptW F q (k + 1) i from fun i hi => by rw [hid.2 i hi]; unfold keptW; rw [hk1])
    clear hall hqk hcell hid hk1 hkn hkq
    unfold maxLen at hcm
    go_wp2_with fail
    go_loopw [5, 6] (fun x y wr => ∃ (jj ii : Nat) (H : Nat → Win), jj ≤ n ∧ x = .int .i64 (ii : Int) ∧ y = .int .i64 (jj : Int) ∧ ii < jj ∧ Hid (ii = (kept F q jj).length) ∧ WRow wr 62 (.slice (some ⟨g, 0, none⟩) n cap) n H ∧ Hid (∀ x, x < ii → H x = keptW F q jj x) ∧ Hid (∀ x, jj ≤ x → x < n → H x = F x) ∧ Frm [g] w wr) (fun _ y _ => n - (intOf y).toNat)
    case atStart => exact ⟨k + 1, k, F, by omega, rfl, by go_num, by omega, hide H1.out.symm, hrow1, H2, hide (fun _ _ _ => rfl), hf1.mono (by simp)⟩
    case round =>
      obtain ⟨jj, ii, H, hj, rfl, rfl, hij, hii, hR, hlow, hhigh, hfr⟩ := hrel
      have nag : ba ≠ g := fun e => by
        have := own_blk_ne hrow ha (by decide)
        exact this (by rw [e]; rfl)
      have nbg : bb ≠ g := fun e => by
        have := own_blk_ne hrow hb (by decide)
        exact this (by rw [e]; rfl)
      have ha2 := ha.frm hfr (by simpa using nag)
      have hb2 := hb.frm hfr (by simpa using nbg)
      by_cases hlt : jj < n
      · obtain ⟨g', he, hg2, hcell⟩ := hR.blk (by omega)
        simp only [Option.some.injEq, Addr.mk.injEq, and_true] at he
        subst he
        have hHj : H jj = F jj := hhigh.out jj (Nat.le_refl _) hlt
        have c0 : wr.cell? ⟨g, jj * 6, none⟩ = some (.int .i64 (F jj).st) := by have := hcell jj 0 hlt (by decide); rw [hHj] at this; exact this
        have c1 : wr.cell? ⟨g, jj * 6 + 1, none⟩ = some (.int .i64 (F jj).ct) := by have := hcell jj 1 hlt (by decide); rw [hHj] at this; exact this
        have c2 : wr.cell? ⟨g, jj * 6 + 2, none⟩ = some (.int .u64 ((F jj).sm : Int)) := by have := hcell jj 2 hlt (by decide); rw [hHj] at this; exact this
        have c3 : wr.cell? ⟨g, jj * 6 + 3, none⟩ = some (.int .u64 ((F jj).mn : Int)) := by have := hcell jj 3 hlt (by decide); rw [hHj] at this; exact this
        have c4 : wr.cell? ⟨g, jj * 6 + 4, none⟩ = some (.int .u64 ((F jj).mx : Int)) := by have := hcell jj 4 hlt (by decide); rw [hHj] at this; exact this
        have c5 : wr.cell? ⟨g, jj * 6 + 5, none⟩ = some (.int .u64 ((F jj).la : Int)) := by have := hcell jj 5 hlt (by decide); rw [hHj] at this; exact this
        have hdel := fun W hA hB => del_any ba bb a b (F jj) W hA hB
        rcases hFk : F jj with ⟨st, ct, sm, mn, mx, la⟩
        rw [hFk] at c0 c1 c2 c3 c4 c5 hdel
        simp only at c0 c1 c2 c3 c4 c5
        simp only [Win.arr] at hdel
        have HF := hide hFk
        have Hdel := hide hdel
        have hX := Blk.new wr 62 #[.int .i64 st, .int .i64 ct, .int .u64 (sm : Int), .int .u64 (mn : Int), .int .u64 (mx : Int), .int .u64 (la : Int)]
        have hfX := Frm.alloc (Frm.refl [] wr) (.cells #[.int .i64 st, .int .i64 ct, .int .u64 (sm : Int), .int .u64 (mn : Int), .int .u64 (mx : Int), .int .u64 (la : Int)] 62)
        clear hFk hdel hHj hcell
        go_wp2_with fail
        refine (Hdel.out _ (ha2.frm hfX (by simp)) (hb2.frm hfX (by simp))).mono ?_
        rintro e w2 ⟨rfl, hf2⟩
        have hfw := hfX.trans hf2 (by simp)
        have hX2 := hX.frm hf2 (by simp)
        have hR2 := hR.quiet hfw
        have hfr2 := hfr.trans hfw (by simp)
        clear c0 c1 c2 c3 c4 c5 hX hfX hf2
        by_cases hqq : outB a b ⟨st, ct, sm, mn, mx, la⟩ = true
        · rw [hqq]
          have hk0 : kept F q (jj + 1) = kept F q jj := kept_no (by rw [HF.out, Hq.out]; simp [hqq])
          have HK := hide hk0
          clear hqq hk0
          go_wp2_with fail
          go_roundw
          case measure => simp [intOf]; omega
          case rel =>
            refine ⟨jj + 1, ii, H, by omega, rfl, by go_num, by omega, hide (by rw [HK.out]; exact hii.out), hR2, hide (fun x hx => ?_), hide (fun x h1 h2 => hhigh.out x (by omega) h2), hfr2⟩
            rw [hlow.out x hx]; unfold keptW; rw [HK.out]
        · have hqf : outB a b ⟨st, ct, sm, mn, mx, la⟩ = false := by simpa using hqq
          rw [hqf]
          have hqy : q (F jj) = true := by rw [HF.out, Hq.out]; simp [hqf]
          have HY := hide hqy
          obtain ⟨g', he, hg2', hcell⟩ := hR2.blk (by omega)
          simp only [Option.some.injEq, Addr.mk.injEq, and_true] at he
          subst he
          have hS := hR2.store ii (by omega) ⟨st, ct, sm, mn, mx, la⟩
          have x0 : w2.cell? ⟨wr.heap.size, 0, none⟩ = some (.int .i64 st) := hX2.cell 0
          have x1 : w2.cell? ⟨wr.heap.size, 1, none⟩ = some (.int .i64 ct) := hX2.cell 1
          have x2 : w2.cell? ⟨wr.heap.size, 2, none⟩ = some (.int .u64 (sm : Int)) := hX2.cell 2
          have x3 : w2.cell? ⟨wr.heap.size, 3, none⟩ = some (.int .u64 (mn : Int)) := hX2.cell 3
          have x4 : w2.cell? ⟨wr.heap.size, 4, none⟩ = some (.int .u64 (mx : Int)) := hX2.cell 4
          have x5 : w2.cell? ⟨wr.heap.size, 5, none⟩ = some (.int .u64 (la : Int)) := hX2.cell 5
          have y0 : w2.cell? ⟨g, ii * 6, none⟩ = some ((H ii).cell 0) := hcell ii 0 (by omega) (by decide)
          have y1 := hcell ii 1 (by omega) (by decide)
          have y2 := hcell ii 2 (by omega) (by decide)
          have y3 := hcell ii 3 (by omega) (by decide)
          have y4 := hcell ii 4 (by omega) (by decide)
          have y5 := hcell ii 5 (by omega) (by decide)
          have f0 := hR2.frozen (ii * 6)
          have f1 := hR2.frozen (ii * 6 + 1)
          have f2 := hR2.frozen (ii * 6 + 2)
          have f3 := hR2.frozen (ii * 6 + 3)
          have f4 := hR2.frozen (ii * 6 + 4)
          have f5 := hR2.frozen (ii * 6 + 5)
          have b1 : (0 : Int) ≤ (ii : Int) := by omega
          have b2 : (ii : Int) < (n : Int) := by omega
          have b3 : ii < n := by omega
          have hFE : Frm [g] w ((((((w2.setCell ⟨g, ii * 6, none⟩ (.int .i64 st)).setCell ⟨g, ii * 6 + 1, none⟩ (.int .i64 ct)).setCell ⟨g, ii * 6 + 2, none⟩ (.int .u64 (sm : Int))).setCell ⟨g, ii * 6 + 3, none⟩ (.int .u64 (mn : Int))).setCell ⟨g, ii * 6 + 4, none⟩ (.int .u64 (mx : Int))).setCell ⟨g, ii * 6 + 5, none⟩ (.int .u64 (la : Int))) := by
            have hm : ∀ (W : World) (p : Nat) (u : Value), Frm [g] w W → Frm [g] w (W.setCell ⟨g, p, none⟩ u) := fun W p u h => h.setCell (p := ⟨g, p, none⟩) (.inl (List.mem_cons_self ..)) u
            exact hm _ _ _ (hm _ _ _ (hm _ _ _ (hm _ _ _ (hm _ _ _ (hm _ _ _ hfr2)))))
          have HE := hide (And.intro hS hFE)
          clear hcell hqq hqf hqy hS hFE hR2 hfr2 hX2
          go_wp2_with fail
          go_roundw
          case measure => simp [intOf]; omega
          case rel =>
            refine ⟨jj + 1, ii + 1, atW H ii ⟨st, ct, sm, mn, mx, la⟩, by omega, by go_num, by go_num, by omega, hide (by rw [kept_yes HY.out, List.length_append, ← hii.out]; rfl), HE.out.1, hide (fun x hx => ?_), hide (fun x h1 h2 => ?_), HE.out.2⟩
            · by_cases hx2 : x = ii
              · have hl := keptW_last HY.out
                rw [← hii.out] at hl
                rw [hx2, atW_same, hl, HF.out]
              · rw [atW_other _ _ _ _ hx2, hlow.out x (by omega)]
                exact (keptW_snoc HY.out x (by rw [← hii.out]; omega)).symm
            · rw [atW_other _ _ _ _ (by omega)]
              exact hhigh.out x (by omega) h2
      · obtain rfl : jj = n := by omega
        have hclr := fun ty => clear_wins hR ii hij (cap - ii) ty
        have hsh := (hR.short ii (by omega)).beyonds (Builtin.zeroCells winZ.cells (jj - ii)).toList _ (ii * 6) (Nat.le_refl _)
        have hfe : Frm [g] w _ := frm_setCells (g := g) (Builtin.zeroCells winZ.cells (jj - ii)).toList wr (ii * 6) hfr (.inl (List.mem_cons_self ..))
        generalize wr.setCells g (ii * 6) (Builtin.zeroCells winZ.cells (jj - ii)).toList = wz at hclr hsh hfe
        have b1 : (0 : Int) ≤ (ii : Int) := by omega
        have b2 : (ii : Int) ≤ (jj : Int) := by omega
        have b3 : ii < cap := by omega
        have b4 : (ii : Int) ≤ (cap : Int) := by omega
        go_wp2_with fail
        go_ret
        refine ⟨some ⟨g, 0, none⟩, cap, by rw [← hii.out]; rfl, ?_, hfe, fun k h => h⟩
        rw [← hii.out]
        exact hsh.congr (fun x hx => hlow.out x hx)

/-- What Between tells: a new row of those that lie between. -/
def NewKept (F : Nat → Win) (q : Win → Bool) (n : Nat) (w : World) (e : Ending) (w' : World) : Prop :=
  ∃ (A : Option Addr) (c : Nat), e = .returned (.slice A (kept F q n).length c) ∧ WRow w' 62 (.slice A (kept F q n).length c) (kept F q n).length (keptW F q n) ∧ Fresh w.heap.size (.slice A (kept F q n).length c) ∧ Frm [] w w'

set_option maxRecDepth 100000 in
set_option maxHeartbeats 1000000 in
theorem between_any (a b : Int) (A : Option Addr) (n cap : Nat) (F : Nat → Win) (hn : n * 48 ≤ 140737488351232) (w : World) (hc : CellsAt w A n 6 (fun i j => (F i).cell j)) :
    Calls Try.prog 30 #[.int .i64 a, .int .i64 b, .slice A n cap] w (NewKept F (fun x => !outB a b x) n w) := by
  have hmf : ∀ (fn : Fn) (first cap : Array Value) (w : World), (Instr.makeFunc fn first cap).run Try.prog w = .ok (.func fn first cap) w := fun _ _ _ _ => rfl
  have hf0 : Frm [] w ((w.alloc (.cells #[.int .i64 a] 2)).alloc (.cells #[.int .i64 b] 2)) := ((Frm.refl _ _).alloc _).alloc _
  have ka := (Blk.new w 2 #[.int .i64 a]).alloc (.cells #[.int .i64 b] 2)
  have kb := Blk.new (w.alloc (.cells #[.int .i64 a] 2)) 2 #[.int .i64 b]
  rw [World.size_alloc] at kb
  go_enter Try.func30, Try.ntmps30
  go_wp2_with fail
  refine (clone_any A n cap F hn _ (hc.frm hf0)).mono ?_
  rintro e w1 ⟨v, rfl, hrow, hfr, hf1⟩
  obtain ⟨A1, c1, rfl⟩ := hrow.shape
  go_wp2_with fail
  refine (delete_any A1 n c1 F w.heap.size (w.heap.size + 1) a b hn w1 hrow (ka.frm hf1 (by simp)) (kb.frm hf1 (by simp))).mono ?_
  rintro e w2 ⟨A2, c2, rfl, hrow2, hf2, hown⟩
  have hfr' : Fresh w.heap.size (.slice A1 n c1) := fun k hk => by
    have := hfr k hk
    simp at this
    omega
  go_wp2_with fail
  go_ret
  exact ⟨A2, c2, rfl, hrow2, fun k hk => hfr' k (hown k hk), (hf0.trans hf1 (by simp)).trans hf2 hfr'.row⟩

end Go.Proofs.Ytceidhjgdgnplaa
