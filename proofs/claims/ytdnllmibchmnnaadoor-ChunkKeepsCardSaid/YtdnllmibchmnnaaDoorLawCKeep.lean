/-
  ChunkKeeps' walk: lists that are answered are new memory; a nil chunk refuses, and has nothing.
-/
import Derived.Test.YtdnllmibchmnnaaDoorRdt
import Derived.Lib.SliceRun
namespace Go.Proofs.YtdnllmibchmnnaaDoor
set_option linter.unusedVariables false
set_option linter.unusedSimpArgs false
open Go.RowKit Go.BigFrame

set_option maxRecDepth 100000 in
set_option maxHeartbeats 1000000 in
theorem last_nil (w : World) :
    Calls Tryd.prog 18 #[.pointer none] w fun e w' => e = .returned (.tuple #[.agg #[.int .i64 0, .int .u64 0], .bool false]) ∧ Frm [] w w' := by
  go_enter Tryd.func18, Tryd.ntmps18
  go_wp2_with fail
  refine (count_nil _).mono ?_
  rintro e w1 ⟨rfl, rfl⟩
  go_wp2_with fail
  refine bodyPost_ret (results_cell2 rfl _ _ w.heap.size 37 #[.int .i64 0, .int .u64 0] (0, 0) _ (.bool false) rfl rfl (Blk.new w 37 #[.int .i64 0, .int .u64 0]) Tryd.underlying37 rfl (by kernel_rfl)) rfl ?_
  exact ⟨rfl, (Frm.refl _ _).alloc _⟩

set_option maxHeartbeats 400000 in
theorem app_nil (t v : Int) (w : World) :
    Calls Tryd.prog 17 #[.pointer none, .int .i64 t, .int .u64 v] w fun e w' => e = .returned (.int .i64 1) ∧ w = w' := by
  go_enter Tryd.func17, Tryd.ntmps17
  go_wp2
  go_ret
  exact ⟨rfl, rfl⟩

set_option maxHeartbeats 400000 in
theorem ckbytes_nil (w : World) :
    Calls Tryd.prog 20 #[.pointer none] w fun e w' => e = .returned (.string { data := #[] }) ∧ w = w' := by
  go_enter Tryd.func20, Tryd.ntmps20
  go_wp2
  go_ret
  exact ⟨rfl, rfl⟩

/-- The samples with x at the place k. -/
def atS (F : Nat → Smp) (k : Nat) (x : Smp) : Nat → Smp := fun i => if i = k then x else F i
theorem atS_same (F : Nat → Smp) (k : Nat) (x : Smp) : atS F k x k = x := by simp [atS]
theorem atS_other (F : Nat → Smp) (k : Nat) (x : Smp) (i : Nat) (h : i ≠ k) : atS F k x i = F i := by simp [atS, h]

theorem smpC_set (F : Nat → Smp) (n k : Nat) (x : Smp) (hk : k < n) : ((smpC F n).set (k * 2) (.int .i64 x.t)).set (k * 2 + 1) (.int .u64 (x.v : Int)) = smpC (atS F k x) n := by
  apply List.ext_getElem?
  intro p
  by_cases hp : p < n * 2
  · obtain ⟨i, j, rfl, hj⟩ : ∃ i j, p = i * 2 + j ∧ j < 2 := ⟨p / 2, p % 2, by omega, Nat.mod_lt _ (by decide)⟩
    have hi : i < n := by omega
    rw [smpC_get _ _ _ _ hi hj]
    simp only [List.getElem?_set, List.length_set, smpC_length]
    by_cases hik : i = k
    · subst hik
      rw [atS_same]
      obtain rfl | rfl : j = 0 ∨ j = 1 := by omega
      · rw [if_neg (by omega), if_pos (by omega), if_pos (by omega)]; rfl
      · rw [if_pos (by omega), if_pos (by omega)]; rfl
    · rw [if_neg (by omega), if_neg (by omega), smpC_get _ _ _ _ hi hj, atS_other _ _ _ _ hik]
  · rw [List.getElem?_eq_none (by simp [smpC_length]; omega), List.getElem?_eq_none (by rw [smpC_length]; omega)]

section
variable {w w' : World} {e : TypeId} {g n c : Nat} {F : Nat → Smp}
/-- A sample stored into a row. -/
theorem SRow.store (h : SRow w e (.slice (some ⟨g, 0, none⟩) n c) n F) (k : Nat) (hk : k < n) (x : Smp) :
    SRow ((w.setCell ⟨g, k * 2, none⟩ (.int .i64 x.t)).setCell ⟨g, k * 2 + 1, none⟩ (.int .u64 (x.v : Int))) e (.slice (some ⟨g, 0, none⟩) n c) n (atS F k x) := by
  have h1 := ((World.ownsRow.stored h (k * 2) (.int .i64 x.t)).1.stored (k * 2 + 1) (.int .u64 (x.v : Int))).1
  rw [smpC_set F n k x hk] at h1
  exact h1
theorem SRow.frozen (h : SRow w e (.slice (some ⟨g, 0, none⟩) n c) n F) (j : Nat) : w.frozen? ⟨g, j, none⟩ = false := World.ownsRow.frozenAt h j
end

/-- One sample more onto a list that has no room: a new row. -/
theorem append_clip {e t ty : TypeId} (ht : Tryd.prog.underlying t = some (.slice e)) (hi : (Tryd.prog.info? e).map (fun i => (i.zero, i.size, i.bytes)) = some (some smpZ, 2, 16)) (w : World) {A : Option Addr} {n c : Nat} {G : Nat → Smp} (h : SRow w e (.slice A n c) n G) (x : Smp)
    (hn : (n + 1) * 16 ≤ 140737488351232) :
    ∃ v' w', (Builtin.append_ #[t, t] ty #[.slice A n n, .slice (some ⟨w.heap.size, 0, none⟩) 1 1]).run Tryd.prog (w.alloc (.cells x.arr e)) = .ok v' w' ∧ SRow w' e v' (n + 1) (atS G n x) ∧ Frm [] w w' ∧ Fresh w.heap.size v' := by
  have hG : ∀ i, i < n → G i = atS G n x i := fun i hi => (atS_other G n x i (by omega)).symm
  rcases h.2 with ⟨he, hn0⟩ | ⟨g, cap, cur, he, hbg, hg, hnc, hcm, hcs, htake⟩
  · simp only [Value.slice.injEq] at he
    obtain ⟨rfl, rfl, rfl⟩ := he
    obtain ⟨v', w', hr, hown, hf, hg⟩ := append_smp (ty := ty) ht hi w (SRow.nil w e (atS G 0 x)) x (atS_same _ _ _) (by omega)
    exact ⟨v', w', hr, hown, hf, (Fresh.nil _).grew hg (Nat.le_refl _)⟩
  · simp only [Value.slice.injEq] at he
    obtain ⟨rfl, _, rfl⟩ := he
    have hfit := fit16 (n + 1) hn
    have h63 := max16 (n + 1) hn
    have hm63 : n + 1 ≤ 9223372036854775807 := by simp only [maxLen] at h63; omega
    obtain ⟨i0, hi0, hz0, hz1, hz2⟩ := info_parts hi
    have hW : (w.alloc (.cells x.arr e)).ownsRow 0 e 2 (.slice (some ⟨g, 0, none⟩) n c) n (smpC (atS G n x) n) := World.ownsRow.alloc (h.congr hG) _
    have holds : ∀ j u, (smpC (atS G n x) n)[j]? = some u → (w.alloc (.cells x.arr e)).cell? ((⟨g, 0, none⟩ : Addr).add j) = some u := World.ownsRow.cells hW (g := g) rfl
    have hn' : ∀ j u, x.arr.toList[j]? = some u → (w.alloc (.cells x.arr e)).cell? ((⟨w.heap.size, 0, none⟩ : Addr).add j) = some u := fun j u hj => by
      rw [add_plain', (Blk.new w e x.arr).cell (0 + j), Nat.zero_add, ← hj, Array.getElem?_toList]
    have hr := run_append_grow (P := Tryd.prog) (w.alloc (.cells x.arr e)) t ty e i0 smpZ ht hi0 hz0 ⟨g, 0, none⟩ n n (smpC (atS G n x) n) (by rw [smpC_length, hz1]) holds ⟨w.heap.size, 0, none⟩ 1 1 x.arr.toList (by rw [hz1]; rfl) hn' (by omega) (by omega) (by rw [hz2]; exact growslice_fits_wide (by omega) hfit)
    refine ⟨_, _, hr, ?_, ?_, ?_⟩
    · have hC := grownCap_ge (w.alloc (.cells x.arr e)) (n + 1) n e
      have hM := grownCap_le_maxLen (w.alloc (.cells x.arr e)) (n + 1) n e h63
      have hlen : (smpC (atS G n x) n ++ x.arr.toList).length = (n + 1) * 2 := by rw [List.length_append, smpC_length, arr_length]; omega
      have hsm : smpC (atS G n x) (n + 1) = smpC (atS G n x) n ++ x.arr.toList := by simp only [smpC, atS_same]
      unfold SRow
      rw [hsm]
      refine ⟨hlen, .inr ⟨(w.alloc (.cells x.arr e)).heap.size, _, _, rfl, Nat.zero_le _, heap_alloc_new (w.alloc (.cells x.arr e)).drew _, hC, hM, ?_, ?_⟩⟩
      · simp only [Array.size_append, List.size_toArray, size_zeroCells, smpC_length, arr_length]
        rw [show smpZ.cells.size = 2 from rfl]
        omega
      · simp only [Array.toList_append, List.append_assoc]
        rw [← List.append_assoc, ← hlen]
        exact List.take_left
    · exact (((Frm.refl [] w).alloc _).drew).alloc _
    · intro k hk
      simp [Value.ownBlock] at hk
      omega

set_option maxRecDepth 100000 in
set_option maxHeartbeats 4000000 in
theorem ckeep_walk (A : Option Addr) (n cap : Nat) (F : Nat → Smp) (hok : ∀ i, i < n → (F i).Ok) (hn : n * 16 ≤ 140737488351232) (w : World) (hD : DbAt w) (hc : CellsAt w A n 2 (fun i j => (F i).cell j)) :
    Calls Tryd.prog 10 #[.slice A n cap] w fun e w' => e = .returned (.bool true) ∧ Frm [] w w' := by
  go_enter Tryd.func10, Tryd.ntmps10
  go_wp2_with fail
  refine (last_nil _).mono ?_
  rintro e w1 ⟨rfl, hf1⟩
  have hf1a : Frm [] w (w1.alloc (.cells #[.int .i64 0, .int .u64 0] 37)) := hf1.alloc _
  have hw := wakes_any _ (hD.frm hf1a)
  have Hw := hide hw
  clear hw
  go_wp2_with fail
  refine Hw.out.mono ?_
  rintro e w2 ⟨rfl, hf2⟩
  have hf02 := hf1a.trans hf2 (by simp)
  clear Hw
  go_wp2_with fail
  refine (app_nil 1 1 _).mono ?_
  rintro e w' ⟨rfl, rfl⟩
  go_wp2_with fail
  refine (count_nil _).mono ?_
  rintro e w' ⟨rfl, rfl⟩
  go_wp2_with fail
  refine (ckbytes_nil _).mono ?_
  rintro e w' ⟨rfl, rfl⟩
  go_wp2_with fail
  refine (twin_any A n cap F hn _ (hc.frm hf02)).mono ?_
  rintro e w3 ⟨v3, rfl, hrow3, hfr3, hf3⟩
  obtain ⟨A3, c3, rfl⟩ := hrow3.shape
  have hf03 := hf02.trans hf3 (by simp)
  go_wp2_with fail
  refine (ref_any A n cap F hn _ (hc.frm hf03)).mono ?_
  rintro e w4 ⟨v4, rfl, hrow4, hfr4, hf4⟩
  obtain ⟨A4, c4, rfl, hle4, _⟩ := hrow4.form
  have hf04 := hf03.trans hf4 (by simp)
  have hrow34 := hrow3.quiet hf4
  by_cases hz : ckFa F n = 0
  · have htell := tellC_zero hz
    have henc := rencode_any A4 n c4 hle4 F hok hn w4 hrow4.cellsAt
    have hcenc := fun W hDW hcW => cencode_any A3 n c3 F hok hn W hDW hcW
    rw [htell] at henc hcenc
    have hnn : ((0 : Int) != 0) = false := by decide
    obtain ⟨hE, hN, hB⟩ := dec_back hok hz
    have hck := ckN_ok F n hok n (Nat.le_refl _) hz
    have h120 := hck.n
    rw [ckN_n] at h120
    have hl := hck.len
    have hsz : (bstr (ckB (ckN F n))).size ≤ 140737488355328 := by
      rw [bstr_size]
      have h1 := uintB_le (ckN F n).n
      have h2 := pack_length (ckN F n).bits
      have h3 := hck.n
      simp only [ckB, List.length_append]
      omega
    have hdec := fun W h => cdecode_any (bstr (ckB (ckN F n))) hsz W h
    rw [bl_bstr _ (ckB_byte _)] at hdec
    unfold NewDec at hdec
    rw [hE, hN] at hdec
    have Henc := hide henc
    have Hcenc := hide hcenc
    have Hdec := hide hdec
    have HB := hide hB
    clear henc hcenc hdec hB hE hN hck hl hsz htell hz
    generalize bstr (ckB (ckN F n)) = B at *
    generalize rdF (rdL (ckB (ckN F n))) = G at *
    go_wp2_with fail
    refine Henc.out.mono ?_
    rintro e w5 ⟨rfl, hf5⟩
    have hf05 := hf04.trans hf5 (by simp)
    go_wp2_with fail
    refine (Hcenc.out _ (hD.frm hf05) (hrow34.quiet hf5).cellsAt).mono ?_
    rintro e w6 ⟨rfl, hf6⟩
    have hf06 := hf05.trans hf6 (by simp)
    go_wp2_with fail
    refine (Hdec.out _ (hD.frm hf06)).mono ?_
    rintro e w7 ⟨Aa, ca, rfl, hrowa, hfva, hf7⟩
    have hf07 := hf06.trans hf7 (by simp)
    go_wp2_with fail
    refine (Hdec.out _ (hD.frm hf07)).mono ?_
    rintro e w8 ⟨Ab, cb, rfl, hrowb, hfvb, hf8⟩
    have hf08 := hf07.trans hf8 (by simp)
    have hgb : ∀ k, (Value.slice Aa n ca).ownBlock = some k → (Value.slice Ab n cb).ownBlock ≠ some k := fun k hk hk2 => by
      have h1 := hrowa.lt hk
      have h2 := hfvb k hk2
      omega
    have hga : ∀ k, (Value.slice Aa n ca).ownBlock = some k → (Value.slice A3 n c3).ownBlock ≠ some k := fun k hk hk2 => by
      have h1 := (((hrow34.quiet hf5).quiet hf6)).lt hk2
      have h2 := hfva k hk
      omega
    have hrowb8 := hrowb
    have hrow38 := (((hrow34.quiet hf5).quiet hf6).quiet hf7).quiet hf8
    have hrowa8 := hrowa.quiet hf8
    have hfa8 : Fresh w.heap.size (.slice Aa n ca) := fun k hk => by
      have := hfva k hk
      have := hf06.size
      omega
    go_wp2_with fail
    go_loopw [70] (fun i wr => ∃ (k : Nat) (X : Nat → Smp), k ≤ n ∧ i = .int .i64 (k : Int) ∧ SRow wr 37 (.slice Aa n ca) n X ∧ Frm (Value.slice Aa n ca).ownBlock.toList w8 wr) (fun i _ => n - (intOf i).toNat)
    case atStart => exact ⟨0, G, by omega, rfl, hrowa8, Frm.refl _ _⟩
    case round =>
      obtain ⟨k, X, hk, rfl, hrow, hf⟩ := hrel
      by_cases hlt : k < n
      · obtain ⟨ga, cap', cur, hsl, _⟩ := own_form hrow (by omega)
        simp only [Value.slice.injEq, true_and] at hsl
        obtain ⟨rfl, _⟩ := hsl
        have b1 : (0 : Int) ≤ (k : Int) := by omega
        have b2 : (k : Int) < (n : Int) := by omega
        obtain ⟨sb, off, hAA, hsb, c0, c1⟩ := smp_at hrow.cellsAt hlt
        simp only [Option.some.injEq, Addr.mk.injEq] at hAA
        obtain ⟨rfl, rfl, _⟩ := hAA
        simp only [Nat.zero_add] at c0 c1
        have f0 := hrow.frozen (k * 2)
        have f1 := hrow.frozen (k * 2 + 1)
        have hrow' := hrow.store k hlt ⟨-7, 7⟩
        have hlt2 := hide hlt
        clear hlt
        go_wp2_with fail
        go_roundw
        case measure => have := hlt2.out; simp [intOf]; omega
        case rel =>
          exact ⟨k + 1, _, by have := hlt2.out; omega, by go_num, hrow', (hf.setCell (p := ⟨ga, k * 2, none⟩) (.inl (by simp [Value.ownBlock])) _).setCell (p := ⟨ga, k * 2 + 1, none⟩) (.inl (by simp [Value.ownBlock])) _⟩
      · obtain rfl : k = n := by omega
        have hrowb9 : SRow wr 37 (.slice Ab k cb) k G := hrowb8.frm hf (fun j hj hm => hgb j (by simpa using hm) hj)
        have hrow39 : SRow wr 37 (.slice A3 k c3) k F := hrow38.frm hf (fun j hj hm => hga j (by simpa using hm) hj)
        have hf09 : Frm [] w wr := hf08.trans hf hfa8.row
        clear hrow38 hrowb8 hrowa8 hrowa hrowb hf hf08 hga hgb hfvb hfva hlt
        obtain ⟨va, w10, hr10, hown10, hf10, hfr10⟩ := append_clip (ty := 22) Tryd.underlying22 smpinfo wr hrow ⟨9, 0⟩ (by omega)
        simp only [Smp.arr] at hr10
        obtain ⟨Av, cv, hva⟩ := hown10.shape
        subst hva
        obtain ⟨vb, w11, hr11, hown11, hf11, hg11⟩ := append_smp (ty := 22) Tryd.underlying22 smpinfo w10 (hown10.congr (G := atS (atS X k ⟨9, 0⟩) (k + 1) ⟨9, 0⟩) (fun i hi => (atS_other _ _ _ _ (by omega)).symm)) ⟨9, 0⟩ (atS_same _ _ _) (by omega)
        simp only [Smp.arr] at hr11
        obtain ⟨Bv, dv, hvb⟩ := hown11.shape
        subst hvb
        obtain ⟨vc, w12, hr12, hown12, hf12, hg12⟩ := append_smp (ty := 22) Tryd.underlying22 smpinfo w11 (hown11.congr (G := atS (atS (atS X k ⟨9, 0⟩) (k + 1) ⟨9, 0⟩) (k + 1 + 1) ⟨9, 0⟩) (fun i hi => (atS_other _ _ _ _ (by omega)).symm)) ⟨9, 0⟩ (atS_same _ _ _) (by omega)
        simp only [Smp.arr] at hr12
        obtain ⟨Cv, ev, hvc⟩ := hown12.shape
        subst hvc
        have hfr11 : Fresh wr.heap.size (.slice Bv (k + 1 + 1) dv) := hfr10.grew hg11 hf10.size
        have hf911 : Frm [] wr w11 := hf10.trans hf11 hfr10.row
        have hf912 : Frm [] wr w12 := hf911.trans hf12 hfr11.row
        have Hr10 := hide hr10
        have Hr11 := hide hr11
        have Hr12 := hide hr12
        clear hr10 hr11 hr12
        go_wp2_with fail
        refine wp_loop_rounds 4 ?_
        rw [rounds_succ]
        go_wp2_with (at_builtin; refine wp_append_known rfl (.tmp 80) (.tmp 82) 22 22 rfl rfl rfl Hr10.out ?_)
        rw [rounds_succ]
        go_wp2_with (at_builtin; refine wp_append_known rfl (.tmp 80) (.tmp 82) 22 22 rfl rfl rfl Hr11.out ?_)
        rw [rounds_succ]
        go_wp2_with (at_builtin; refine wp_append_known rfl (.tmp 80) (.tmp 82) 22 22 rfl rfl rfl Hr12.out ?_)
        rw [rounds_succ]
        go_wp2_with fail
        refine (ref_any A k cap F hn _ (hc.frm (hf09.trans hf912 (by simp)))).mono ?_
        rintro e w13 ⟨v13, rfl, hrow13, hfr13, hf13⟩
        obtain ⟨A13, c13, rfl⟩ := hrow13.shape
        have hb13 : CellsAt w13 Ab k 2 (fun i j => (F i).cell j) := (((hrowb9.congr HB.out).quiet hf912).quiet hf13).cellsAt
        go_wp2_with fail
        refine (alike_any Ab k k F A13 c13 hn _ hb13 hrow13.cellsAt).mono ?_
        rintro e w14 ⟨rfl, hf14⟩
        have hf914 := (hf912.trans hf13 (by simp)).trans hf14 (by simp)
        go_wp2_with fail
        refine (ref_any A k cap F hn _ (hc.frm (hf09.trans hf914 (by simp)))).mono ?_
        rintro e w15 ⟨v15, rfl, hrow15, hfr15, hf15⟩
        obtain ⟨A15, c15, rfl⟩ := hrow15.shape
        have hf915 := hf914.trans hf15 (by simp)
        go_wp2_with fail
        refine (alike_any A3 k c3 F A15 c15 hn _ (hrow39.quiet hf915).cellsAt hrow15.cellsAt).mono ?_
        rintro e w16 ⟨rfl, hf16⟩
        go_wp2_with fail
        go_ret
        exact ⟨rfl, (hf09.trans hf915 (by simp)).trans hf16 (by simp)⟩
  · have htell : tellC F n = .tuple #[.string (bstr []), .int .i64 (ckFa F n)] := by unfold tellC; rw [if_neg hz]
    have henc := rencode_any A4 n c4 hle4 F hok hn w4 hrow4.cellsAt
    have hcenc := fun W hDW hcW => cencode_any A3 n c3 F hok hn W hDW hcW
    rw [htell] at henc hcenc
    have hnn : (ckFa F n != 0) = true := by rw [bne_iff_ne]; exact hz
    have hb0 : bstr [] = { data := #[] } := rfl
    rw [hb0] at henc hcenc
    generalize ckFa F n = er at *
    have Henc := hide henc
    have Hcenc := hide hcenc
    clear henc hcenc hz htell hb0
    go_wp2_with fail
    refine Henc.out.mono ?_
    rintro e w5 ⟨rfl, hf5⟩
    have hf05 := hf04.trans hf5 (by simp)
    go_wp2_with fail
    refine (Hcenc.out _ (hD.frm hf05) (hrow34.quiet hf5).cellsAt).mono ?_
    rintro e w6 ⟨rfl, hf6⟩
    go_wp2_with fail
    go_ret
    exact ⟨rfl, hf05.trans hf6 (by simp)⟩

end Go.Proofs.YtdnllmibchmnnaaDoor
