/-
  ChunkWalks' walk: the iterator gives the samples ahead of the first fault, as often as it is asked, and may be left at any.
-/
import Derived.Test.YtdnllmibchmnnaaDoorWkt
import Derived.Test.YtdnllmibchmnnaaDoorRrq
import Derived.Test.YtdnllmibchmnnaaDoorQur
namespace Go.Proofs.YtdnllmibchmnnaaDoor
set_option linter.unusedVariables false
set_option linter.unusedSimpArgs false
open Go.RowKit Go.BigFrame Go.Shelf
attribute [local go_sem] Oper.semAt_some

def mark (r : Nat) : Deferred := { target := .collected r, args := #[] }

/-- Leaving behind loops over functions: their marks are taken up, one by one. -/
theorem leaves_marks {F : Fence} {n : Nat} {P : Program} {fn : Func} {tmps : Array Value} {R : Ending → World → Prop} : ∀ (rs : List Nat) (W : World), rs.Nodup → (∀ r ∈ rs, W.heap[r]? = some (.deferred (some []))) →
    (∀ W', (∀ (k : Nat) (o : Obj), W.heap[k]? = some o → o.isCells = true → W'.heap[k]? = some o) → Frm rs W W' → LeavesIn F n P fn tmps R [] .returning W') → LeavesInM F n P fn tmps R (rs.map mark) .returning W
  | [], W, _, _, h => h W (fun _ _ h _ => h) (Frm.refl _ _)
  | r :: rs, W, hn, hr, h => by
    obtain ⟨hn1, hn2⟩ := List.nodup_cons.1 hn
    have hr0 := hr r (by simp)
    have hg := grownBy_putObj' W r (.deferred none)
    refine ⟨by simp, .inl ⟨r, _, rfl, run_takeDeferred hr0, leaves_marks rs _ hn2 (fun x hx => ?_) (fun W' hk hf => h W' (fun k o ho hc => hk k o ?_ hc) ?_)⟩⟩
    · rw [hg.block x (Array.getElem?_eq_some_iff.1 (hr x (by simp [hx]))).1 (fun e => by cases e; exact hn1 hx)]
      exact hr x (by simp [hx])
    · rw [hg.block k (Array.getElem?_eq_some_iff.1 ho).1 (fun e => by cases e; rw [hr0] at ho; cases ho; cases hc)]
      exact ho
    · exact ((Frm.refl (r :: rs) W).grown hg (fun k e => by cases e; exact .inl (by simp))).trans hf (fun x hx => .inl (by simp [hx]))

theorem upto_snoc {F : Nat → Smp} {pre : List Smp} {x : Smp} (hp : pre = upto F pre.length) (hx : x = F pre.length) : pre ++ [x] = upto F (pre ++ [x]).length := by
  rw [List.length_append, List.length_singleton, upto_succ, ← hp, hx]
theorem upto_bad {F : Nat → Smp} {pre : List Smp} {x : Smp} (hx : x ≠ F pre.length) : ¬ pre ++ [x] = upto F (pre ++ [x]).length := by
  intro h
  rw [List.length_append, List.length_singleton, upto_succ] at h
  have := List.append_inj' h rfl
  exact hx (by simpa using this.2)
theorem smp_ext {x y : Smp} (h1 : x.t = y.t) (h2 : x.v = y.v) : x = y := by cases x; cases y; simp_all

/-- Nothing of a block of cells is turned by what turns no cells. -/
theorem Blk.turned {W W' : World} {g : Nat} {t : TypeId} {cs : Array Value} {B : Nat} {row : Option Nat} (h : Blk W g t cs) (hg : W.grownBy W' row) (hr : ∀ r, row = some r → B ≤ r ∧ ∃ o : Obj, W.heap[r]? = some o ∧ o.isCells = false) : Blk W' g t cs :=
  h.grown hg (fun e => by
    obtain ⟨_, o, ho, hc⟩ := hr g e.symm
    unfold Blk at h
    rw [h] at ho
    cases ho
    cases hc)

set_option maxRecDepth 100000 in
set_option maxHeartbeats 16000000 in
theorem cwalks_walk (s : ByteArray) (hs : 8 * s.size ≤ 140737488355328) (stop : Int) (w : World) (hD : DbAt w) :
    Calls Tryd.prog 6 #[.string s, .int .i64 stop] w fun e w' => e = .returned (.bool true) ∧ Frm [] w w' := by
  have hread := fun W => rrread_any s hs W
  have hstops := fun n hn Bs n₀ W h1 h2 h3 => walk_stops n hn Bs n₀ s (by omega) W h1 h2 h3
  obtain ⟨cc, _, hm, _⟩ := rdM_form (bl s)
  unfold NewRd at hread
  generalize (rdM (bl s)).1 = m at *
  generalize (rdM (bl s)).2 = er at *
  generalize rdF (rdL (bl s)) = F at *
  have Hread := hide hread
  have Hstops := hide hstops
  clear hread hstops
  refine (callsIn_wide (n := 9)).1 ?_
  refine callsIn_of_wp_marks Tryd.func6 rfl trivial ?_ rfl
  simp only [Tryd.ntmps6, List.size_toArray, List.length_cons, List.length_nil, Nat.reduceAdd, Nat.reduceSub, Array.replicate_succ, Array.replicate_zero, List.push_toArray, List.append_toArray, List.nil_append, List.cons_append]
  have bS := Blk.new w 3 #[.int .i64 stop]
  have bR := Blk.new (w.alloc (.cells #[.int .i64 stop] 3)) 4 #[.bool false]
  rw [World.size_alloc] at bR
  have hF0 : Frm [] w ((w.alloc (.cells #[.int .i64 stop] 3)).alloc (.cells #[.bool false] 4)) := ((Frm.refl [] w).alloc _).alloc _
  have bS' := bS.alloc (.cells #[.bool false] 4)
  obtain ⟨w1, hw1⟩ : ∃ w1, (w.alloc (.cells #[.int .i64 stop] 3)).alloc (.cells #[.bool false] 4) = w1 := ⟨_, rfl⟩
  rw [hw1] at bS' bR hF0
  have Hw1 := hide hw1
  clear hw1 bS
  gi_wp2_with (first
    | (refine ⟨trivial, ?_⟩; gi_at_call 22; rw [Hw1.out]; refine (callsIn_wide.2 (Hread.out _)).mono ?_; rintro e w2 ⟨v, rfl, hrow, hfv, hf2⟩; obtain ⟨A, c, rfl⟩ := hrow.shape))
  have hF2 := hF0.trans hf2 (by simp)
  have bS2 := bS'.frm hf2 (by simp)
  have bR2 := bR.frm hf2 (by simp)
  have bW := Blk.new w2 29 #[.slice A m c]
  have bT := Blk.new (w2.alloc (.cells #[.slice A m c] 29)) 9 #[.string s]
  rw [World.size_alloc] at bT
  have bW' := bW.alloc (.cells #[.string s] 9)
  have hA3 : Frm [] w2 ((w2.alloc (.cells #[.slice A m c] 29)).alloc (.cells #[.string s] 9)) := ((Frm.refl [] w2).alloc _).alloc _
  obtain ⟨w3, hw3⟩ : ∃ w3, (w2.alloc (.cells #[.slice A m c] 29)).alloc (.cells #[.string s] 9) = w3 := ⟨_, rfl⟩
  rw [hw3] at bT bW' hA3
  obtain ⟨b, hb⟩ : ∃ b, w.heap.size = b := ⟨_, rfl⟩
  obtain ⟨q, hh⟩ : ∃ q, w2.heap.size = q := ⟨_, rfl⟩
  have bS3 := bS2.frm hA3 (by simp)
  have bR3 := bR2.frm hA3 (by simp)
  have hrow3 := hrow.frm hA3 (by simp)
  have hF3 := hF2.trans hA3 (by simp)
  have hlt3 := bT.lt
  have hnil : ∀ (x : Array Value) (W : World), (binOp BinOp.eql 56 (.func (.func 42) #[] x) Value.nilFunc).run Tryd.prog W = .ok (.bool false) W := fun x W => by
    first | rfl | kernel_rfl | simp [binOp, go_sem]
  clear bS2 bR2 hrow hF2 bW hA3 bS' bR hF0
  gi_wp2_with (first
    | (refine ⟨trivial, ?_⟩; gi_at_call 23; refine (callsIn_wide.2 (cwalk_any _ _)).mono ?_; rintro e w' ⟨rfl, rfl⟩; rw [hw3])
    | (refine ⟨trivial, ?_⟩; gi_at_call 15; refine (callsIn_wide.2 (wakes_any _ (hD.frm hF3))).mono ?_; rintro e w4 ⟨rfl, hf4⟩))
  have bS4 := bS3.frm hf4 (by simp)
  have bR4 := bR3.frm hf4 (by simp)
  have bW4 := bW'.frm hf4 (by simp)
  have bT4 := bT.frm hf4 (by simp)
  have hrow4 := hrow3.quiet hf4
  have hF4 := hF3.trans hf4 (by simp)
  clear bS3 bR3 bW' bT hrow3 hF3 hf4 hw3 Hw1 Hread hlt3
  rw [hb] at bS4 bR4
  rw [hh] at bW4 bT4
  have hbw : w.heap.size ≤ b := by omega
  clear hb hh
  refine wpIn_loop (fun a W => ∃ (J : Int) (rs : List Nat) (u2 u6 u8 u9 u10 u11 u12 u13 u14 u15 u16 u17 u18 u19 u20 u21 u22 u23 u25 u26 u27 u28 u29 u30 u31 u32 u33 u34 u35 u36 u37 u38 u39 u40 u41 u42 u43 u44 u45 u46 u47 u48 u49 u50 u51 u52 u53 u54 u55 u56 u57 u58 u59 u60 u61 u62 u63 u64 u65 u66 u67 u68 u69 u70 u71 u72 u73 u74 u75 : Value), (0 ≤ J ∧ J ≤ 3) ∧ a = { tmps := #[.string s, .int .i64 stop, u2, .pointer (some ⟨b, 0, none⟩), .pointer (some ⟨b + 1, 0, none⟩), .pointer (some ⟨q, 0, none⟩), u6, .func (.func 42) #[] #[.pointer (some ⟨q + 1, 0, none⟩)], u8, u9, u10, u11, u12, u13, u14, u15, u16, u17, u18, u19, u20, u21, u22, u23, .int .i64 J, u25, u26, u27, u28, u29, u30, u31, u32, u33, u34, u35, u36, u37, u38, u39, u40, u41, u42, u43, u44, u45, u46, u47, u48, u49, u50, u51, u52, u53, u54, u55, u56, u57, u58, u59, u60, u61, u62, u63, u64, u65, u66, u67, u68, u69, u70, u71, u72, u73, u74, u75], defers := rs.map mark } ∧ Blk W b 3 #[.int .i64 stop] ∧ Blk W (b + 1) 4 #[.bool false] ∧ Blk W q 29 #[.slice A m c] ∧ Blk W (q + 1) 9 #[.string s] ∧ SRow W 45 (.slice A m c) m F ∧ Frm [] w W ∧ rs.Nodup ∧ (∀ r ∈ rs, w.heap.size ≤ r ∧ W.heap[r]? = some (.deferred (some [])))) (fun a _ => 3 - (intOf (a.tmps.getD 24 undef)).toNat) ?start ?round
  case start => exact ⟨0, [], _, _, _, _, _, _, _, _, _, _, _, _, _, _, _, _, _, _, _, _, _, _, _, _, _, _, _, _, _, _, _, _, _, _, _, _, _, _, _, _, _, _, _, _, _, _, _, _, _, _, _, _, _, _, _, _, _, _, _, _, _, _, _, _, _, _, _, _, _, by omega, rfl, bS4, bR4, bW4, bT4, hrow4, hF4, List.nodup_nil, by simp⟩
  case round =>
    clear bS4 bR4 bW4 bT4 hrow4 hF4
    rintro a W ⟨J, rs, u2, u6, u8, u9, u10, u11, u12, u13, u14, u15, u16, u17, u18, u19, u20, u21, u22, u23, u25, u26, u27, u28, u29, u30, u31, u32, u33, u34, u35, u36, u37, u38, u39, u40, u41, u42, u43, u44, u45, u46, u47, u48, u49, u50, u51, u52, u53, u54, u55, u56, u57, u58, u59, u60, u61, u62, u63, u64, u65, u66, u67, u68, u69, u70, u71, u72, u73, u74, u75, hk, rfl, bS, bR, bW, bT, hrow, hF, hnd, hrs⟩
    clear hD
    by_cases hk3 : J < 3
    · obtain ⟨B1, hB1⟩ : ∃ B1 : Bool, (J == 1) = B1 := ⟨_, rfl⟩
      have hk1 : B1 = true ↔ J = 1 := by rw [← hB1, beq_iff_eq]
      have bK := (Blk.new W 3 #[.int .i64 J]).alloc (.cells #[.int .i64 0] 3)
      have bA := Blk.new (W.alloc (.cells #[.int .i64 J] 3)) 3 #[.int .i64 0]
      rw [World.size_alloc] at bA
      have hFW : Frm [] W ((W.alloc (.cells #[.int .i64 J] 3)).alloc (.cells #[.int .i64 0] 3)) := ((Frm.refl [] W).alloc _).alloc _
      obtain ⟨g, hg⟩ : ∃ g, W.heap.size = g := ⟨_, rfl⟩
      obtain ⟨W0, hW0⟩ : ∃ W0, (W.alloc (.cells #[.int .i64 J] 3)).alloc (.cells #[.int .i64 0] 3) = W0 := ⟨_, rfl⟩
      have hsz : W0.heap.size = g + 2 := by rw [← hW0, ← hg]; simp
      rw [hW0] at bK bA hFW
      rw [hg] at bK bA
      have hgw : w.heap.size ≤ g := by have := hF.size; omega
      have hbg : b < g := by have := bS.lt; omega
      have hhg : q < g := by have := bW.lt; omega
      have bS0 := bS.frm hFW (by simp)
      have bR0 := bR.frm hFW (by simp)
      have bW0 := bW.frm hFW (by simp)
      have bT0 := bT.frm hFW (by simp)
      have hrow0 := hrow.quiet hFW
      have hF0 := hF.trans hFW (by simp)
      have hrs0 : ∀ r ∈ rs, (w.heap.size ≤ r ∧ r < g) ∧ W0.heap[r]? = some (.deferred (some [])) := fun r hr => by
        obtain ⟨h1, h2⟩ := hrs r hr
        have hlt := (Array.getElem?_eq_some_iff.1 h2).1
        exact ⟨⟨h1, by omega⟩, (hFW.block r hlt (by simp)).trans h2⟩
      have HW0 := hide hW0
      have Hg := hide hg
      clear bS bR bW bT hrow hF hrs hFW hW0 hg
      gi_wp2
      rw [HW0.out, Hg.out]
      refine wpIn_rangeFunc_ownH rfl (by decide) (gf := 42) (lb := #[.pointer (some ⟨q + 1, 0, none⟩)]) rfl trivial (enters_of Tryd.func42 (by kernel_rfl) rfl)
        (Hstops.out 8 (by decide) (q + 1) W0.heap.size W0 (by omega) (Nat.le_refl _) (bT0.cell 0)) KeepsUp.trans keepsUp_b (Below.refl _ _) (fun _ => rfl)
        (fun pre W' => (pre = upto F pre.length ∧ pre.length ≤ m) ∧ Blk W' (g + 1) 3 #[.int .i64 (pre.length : Int)] ∧ Frm [g + 1] W0 W')
        (fun c pre W' => (c = .ret ∧ ¬ pre = upto F pre.length) ∨ (c = .exit 2 ∧ (J = 1 ∧ (pre.length : Int) = stop ∧ pre.length ≤ m) ∧ Blk W' (g + 1) 3 #[.int .i64 (pre.length : Int)] ∧ Frm [g + 1] W0 W'))
        (fun pre X Y row hs hg' hr => ⟨hs.1, hs.2.1.turned hg' hr, hs.2.2.grown hg' (fun k e => .inr (hr k e).1)⟩)
        (fun c pre X Y row hs hg' hr => by
          rcases hs with hs | ⟨h1, h2, h3, h4⟩
          · exact .inl hs
          · exact .inr ⟨h1, h2, h3.turned hg' hr, h4.grown hg' (fun k e => .inr (hr k e).1)⟩)
        ⟨⟨rfl, Nat.zero_le _⟩, bA, Frm.refl _ _⟩
        (fun x a' W' => ∃ Bx, W0.heap.size ≤ Bx ∧ Blk W' Bx 37 #[.int .i64 x.t, .int .u64 (x.v : Int)] ∧ a' = { tmps := #[.string s, .int .i64 stop, u2, .pointer (some ⟨b, 0, none⟩), .pointer (some ⟨b + 1, 0, none⟩), .pointer (some ⟨q, 0, none⟩), u6, .func (.func 42) #[] #[.pointer (some ⟨q + 1, 0, none⟩)], .pointer (some ⟨g, 0, none⟩), .pointer (some ⟨g + 1, 0, none⟩), .pointer (some ⟨Bx, 0, none⟩), u11, u12, u13, u14, u15, u16, u17, u18, u19, u20, u21, u22, u23, .int .i64 J, .bool true, .int .i64 J, .func (.func 42) #[] #[.pointer (some ⟨q + 1, 0, none⟩)], .agg #[.int .i64 x.t, .int .u64 (x.v : Int)], u29, u30, u31, u32, u33, u34, u35, u36, u37, u38, u39, u40, u41, u42, u43, u44, u45, u46, u47, u48, u49, u50, u51, u52, u53, u54, u55, u56, u57, u58, u59, u60, u61, u62, u63, u64, u65, u66, u67, u68, u69, u70, u71, u72, u73, u74, u75], defers := [] })
        (fun x a' _ X Y row hs hg' hr => by obtain ⟨Bx, e1, e2, e3⟩ := hs; exact ⟨Bx, e1, e2.turned hg' hr, e3⟩)
        ?assign ?body ?done ?stop
      case assign =>
        rintro l pre x W' K ⟨hp, hA, hFr⟩ hK
        gi_wp2
        exact hK _ _ ((KeepsOthers.alloc _ _).from _) (KeepsUp.of_frm ((Frm.refl [] W').alloc _) (by simp)) ⟨hp, hA.alloc _, hFr.alloc _⟩ ⟨W'.heap.size, hFr.size, Blk.new _ _ _, rfl⟩
      case body =>
        rintro l pre x a' W' hl hr' ⟨⟨hp, hle⟩, hA, hFr⟩ ⟨Bx, hBx, bX, rfl⟩ hlt
        have hgA : g + 1 < W0.heap.size := by omega
        have bS9 := bS0.frm hFr (by simp; omega)
        have bR9 := bR0.frm hFr (by simp; omega)
        have bW9 := bW0.frm hFr (by simp; omega)
        have hrow9 := hrow0.frm hFr (fun x hx hm => own_blk_ne hrow0 bA (by decide) (by rw [hx]; congr 1; simpa using hm))
        obtain ⟨gu, hAu, hgu, hcells⟩ := hrow9.blk (by omega)
        subst hAu
        have k0 := hcells pre.length 0 hlt (by decide)
        have k1 := hcells pre.length 1 hlt (by decide)
        have l0 : W'.cell? ⟨gu, pre.length * 2, none⟩ = some (.int .i64 (F pre.length).t) := k0
        have l1 : W'.cell? ⟨gu, pre.length * 2 + 1, none⟩ = some (.int .u64 ((F pre.length).v : Int)) := k1
        have cW : W'.cell? ⟨q, 0, none⟩ = some (.slice (some ⟨gu, 0, none⟩) m c) := bW9.cell 0
        have cA : W'.cell? ⟨g + 1, 0, none⟩ = some (.int .i64 (pre.length : Int)) := hA.cell 0
        have fA := hA.frozen 0
        have cR : W'.cell? ⟨b + 1, 0, none⟩ = some (.bool false) := bR9.cell 0
        have fR := bR9.frozen 0
        have cS : W'.cell? ⟨b, 0, none⟩ = some (.int .i64 stop) := bS9.cell 0
        have cK : W'.cell? ⟨g, 0, none⟩ = some (.int .i64 J) := (bK.frm hFr (by simp)).cell 0
        have cX0 : W'.cell? ⟨Bx, 0, none⟩ = some (.int .i64 x.t) := bX.cell 0
        have cX1 : W'.cell? ⟨Bx, 1, none⟩ = some (.int .u64 (x.v : Int)) := bX.cell 1
        have hge : decide (m ≤ pre.length) = false := decide_eq_false (by omega)
        have hge2 : ¬ m ≤ pre.length := by omega
        have b1 : (0 : Int) ≤ (pre.length : Int) := Int.natCast_nonneg _
        have b2 : (pre.length : Int) < (m : Int) := by omega
        clear k0 k1 hcells
        by_cases hx1 : x.t = (F pre.length).t
        · have e1 : (x.t != (F pre.length).t) = false := by simp [hx1]
          by_cases hx2 : x.v = (F pre.length).v
          · have hx := smp_ext hx1 hx2
            have e2 : ((x.v : Int) != ((F pre.length).v : Int)) = false := by simp [hx2]
            have hp' := upto_snoc hp hx
            have hl' : (pre ++ [x]).length = pre.length + 1 := by simp
            have Hp' := hide hp'
            have Hl' := hide hl'
            clear hx hx1 hx2 hp hp' hl'
            cases B1 with
            | false =>
              clear hk1
              gi_wp2
              refine wpIn_region_quietR (by kernel_rfl) (by kernel_rfl) (by kernel_rfl) ?_
              repeat (gi_big_quiet_step (fail))
              refine wpQuietIn_nil ?_
              rintro _ ⟨nq, rfl⟩
              obtain ⟨P, hP⟩ : ∃ P : Int, (pre.length : Int) = P := ⟨_, rfl⟩
              rw [hP] at cA hA b1 b2 ⊢
              have HP := hide hP
              clear hP
              have hw : wrap64 (P + 1) = P + 1 := by unfold wrap64; omega
              gi_wp2
              clear hw
              have hA9 : Blk ((W'.drewN nq).setCell ⟨g + 1, 0, none⟩ (.int .i64 (P + 1))) (g + 1) 3 #[.int .i64 ((pre ++ [x]).length : Int)] := by
                have hP := HP.out
                rw [Hl'.out, show ((pre.length + 1 : Nat) : Int) = P + 1 from by omega]
                have := (hA.drewN nq).set_ 0 (.int .i64 (P + 1))
                simpa using this
              exact ⟨(KeepsOthers.trans (A := W') (B := W'.drewN nq) ⟨Nat.le_refl _, fun _ _ h _ => h⟩ (KeepsOthers.setCell _ _ _)).from _, KeepsUp.of_frm (S := [g + 1]) (((Frm.refl _ W').drewN _).setCell (p := ⟨g + 1, 0, none⟩) (.inl (by simp)) _) (fun y hy => by have hy' : y = g + 1 := (by simpa using hy); omega), ⟨Hp'.out, by rw [Hl'.out]; omega⟩, hA9, (hFr.drewN _).setCell (p := ⟨g + 1, 0, none⟩) (.inl (by simp)) _⟩
            | true =>
              have HJ := hide (hk1.1 rfl)
              clear hk1
              by_cases hst : (pre.length : Int) + 1 = stop
              · have est : (((pre.length : Int) + 1) == stop) = true := by rw [beq_iff_eq]; exact hst
                gi_wp2
                refine wpIn_region_quietR (by kernel_rfl) (by kernel_rfl) (by kernel_rfl) ?_
                repeat (gi_big_quiet_step (fail))
                refine wpQuietIn_nil ?_
                rintro _ ⟨nq, rfl⟩
                obtain ⟨P, hP⟩ : ∃ P : Int, (pre.length : Int) = P := ⟨_, rfl⟩
                rw [hP] at cA hA b1 b2 est ⊢
                have HP := hide hP
                clear hP
                have hw : wrap64 (P + 1) = P + 1 := by unfold wrap64; omega
                gi_wp2
                clear hw
                have hA9 : Blk ((W'.drewN nq).setCell ⟨g + 1, 0, none⟩ (.int .i64 (P + 1))) (g + 1) 3 #[.int .i64 ((pre ++ [x]).length : Int)] := by
                  have hP := HP.out
                  rw [Hl'.out, show ((pre.length + 1 : Nat) : Int) = P + 1 from by omega]
                  have := (hA.drewN nq).set_ 0 (.int .i64 (P + 1))
                  simpa using this
                exact ⟨(KeepsOthers.trans (A := W') (B := W'.drewN nq) ⟨Nat.le_refl _, fun _ _ h _ => h⟩ (KeepsOthers.setCell _ _ _)).from _, .inr ⟨rfl, ⟨HJ.out, by rw [Hl'.out]; omega, by rw [Hl'.out]; omega⟩, hA9, (hFr.drewN _).setCell (p := ⟨g + 1, 0, none⟩) (.inl (by simp)) _⟩⟩
              · have est : (((pre.length : Int) + 1) == stop) = false := by rw [beq_eq_false_iff_ne]; exact hst
                gi_wp2
                refine wpIn_region_quietR (by kernel_rfl) (by kernel_rfl) (by kernel_rfl) ?_
                repeat (gi_big_quiet_step (fail))
                refine wpQuietIn_nil ?_
                rintro _ ⟨nq, rfl⟩
                obtain ⟨P, hP⟩ : ∃ P : Int, (pre.length : Int) = P := ⟨_, rfl⟩
                rw [hP] at cA hA b1 b2 est ⊢
                have HP := hide hP
                clear hP
                have hw : wrap64 (P + 1) = P + 1 := by unfold wrap64; omega
                gi_wp2
                clear hw
                have hA9 : Blk ((W'.drewN nq).setCell ⟨g + 1, 0, none⟩ (.int .i64 (P + 1))) (g + 1) 3 #[.int .i64 ((pre ++ [x]).length : Int)] := by
                  have hP := HP.out
                  rw [Hl'.out, show ((pre.length + 1 : Nat) : Int) = P + 1 from by omega]
                  have := (hA.drewN nq).set_ 0 (.int .i64 (P + 1))
                  simpa using this
                exact ⟨(KeepsOthers.trans (A := W') (B := W'.drewN nq) ⟨Nat.le_refl _, fun _ _ h _ => h⟩ (KeepsOthers.setCell _ _ _)).from _, KeepsUp.of_frm (S := [g + 1]) (((Frm.refl _ W').drewN _).setCell (p := ⟨g + 1, 0, none⟩) (.inl (by simp)) _) (fun y hy => by have hy' : y = g + 1 := (by simpa using hy); omega), ⟨Hp'.out, by rw [Hl'.out]; omega⟩, hA9, (hFr.drewN _).setCell (p := ⟨g + 1, 0, none⟩) (.inl (by simp)) _⟩
          · have e2 : ((x.v : Int) != ((F pre.length).v : Int)) = true := by rw [bne_iff_ne]; omega
            have Hbad := hide (upto_bad (F := F) (pre := pre) (x := x) (fun e => hx2 (by rw [e])))
            clear hx1 hx2 hp
            gi_wp2
            refine wpIn_region_quietR (by kernel_rfl) (by kernel_rfl) (by kernel_rfl) ?_
            repeat (gi_big_quiet_step (fail))
            refine wpQuietIn_nil ?_
            rintro _ ⟨nq, rfl⟩
            gi_wp2

            exact ⟨(KeepsOthers.trans (A := W') (B := W'.drewN nq) ⟨Nat.le_refl _, fun _ _ h _ => h⟩ (KeepsOthers.setCell _ _ _)).from _, .inl ⟨rfl, Hbad.out⟩⟩
        · have e1 : (x.t != (F pre.length).t) = true := by rw [bne_iff_ne]; exact hx1
          have Hbad := hide (upto_bad (F := F) (pre := pre) (x := x) (fun e => hx1 (by rw [e])))
          clear hx1 hp
          gi_wp2
          refine wpIn_region_quietR (by kernel_rfl) (by kernel_rfl) (by kernel_rfl) ?_
          repeat (gi_big_quiet_step (fail))
          refine wpQuietIn_nil ?_
          rintro _ ⟨nq, rfl⟩
          gi_wp2

          exact ⟨(KeepsOthers.trans (A := W') (B := W'.drewN nq) ⟨Nat.le_refl _, fun _ _ h _ => h⟩ (KeepsOthers.setCell _ _ _)).from _, .inl ⟨rfl, Hbad.out⟩⟩
      case done =>
        rintro D ys W' hDW hys ⟨⟨hp, hle⟩, hA, hFr⟩ hK
        have hlen : ys.length = m := by rw [hys, upto_length]
        rw [hlen] at hA
        have bS9 := bS0.frm hFr (by simp; omega)
        have bR9 := bR0.frm hFr (by simp; omega)
        have bW9 := bW0.frm hFr (by simp; omega)
        have bT9 := bT0.frm hFr (by simp; omega)
        have hrow9 := hrow0.frm hFr (fun x hx hm => own_blk_ne hrow0 bA (by decide) (by rw [hx]; congr 1; simpa using hm))
        have hF9 : Frm [] w W' := hF0.trans hFr (fun x hx => .inr (by have := hF0.size; simp at hx; omega))
        have hrs9 : ∀ r ∈ D :: rs, w.heap.size ≤ r ∧ W'.heap[r]? = some (.deferred (some [])) := fun r hr => by
          rcases List.mem_cons.1 hr with rfl | hr
          · exact ⟨by have := hF0.size; omega, hK⟩
          · obtain ⟨⟨h1, h2⟩, h3⟩ := hrs0 r hr
            exact ⟨h1, (hFr.block r (by omega) (by simp; omega)).trans h3⟩
        have hnd9 : (D :: rs).Nodup := List.nodup_cons.2 ⟨fun hm => by have := (hrs0 D hm).1; omega, hnd⟩
        have cW := bW9.cell 0
        have cA := hA.cell 0
        have cK : W'.cell? ⟨g, 0, none⟩ = some (.int .i64 J) := (bK.frm hFr (by simp)).cell 0
        have cS := bS9.cell 0
        have hwk : wrap64 (J + 1) = J + 1 := by unfold wrap64; omega
        gi_wp2
        clear hwk
        first
          | exact ⟨⟨J + 1, D :: rs, _, _, _, _, _, _, _, _, _, _, _, _, _, _, _, _, _, _, _, _, _, _, _, _, _, _, _, _, _, _, _, _, _, _, _, _, _, _, _, _, _, _, _, _, _, _, _, _, _, _, _, _, _, _, _, _, _, _, _, _, _, _, _, _, _, _, _, _, _, by omega, rfl, bS9, bR9, bW9, bT9, hrow9, hF9, hnd9, hrs9⟩, by simp [intOf]; omega⟩
          | exact ⟨⟨2, D :: rs, _, _, _, _, _, _, _, _, _, _, _, _, _, _, _, _, _, _, _, _, _, _, _, _, _, _, _, _, _, _, _, _, _, _, _, _, _, _, _, _, _, _, _, _, _, _, _, _, _, _, _, _, _, _, _, _, _, _, _, _, _, _, _, _, _, _, _, _, _, by omega, rfl, bS9, bR9, bW9, bT9, hrow9, hF9, hnd9, hrs9⟩, by simp [intOf]; omega⟩
      case stop =>
        rintro D c pre W' hDW ⟨j, hj, hpre⟩ hix hK
        rcases hix with ⟨rfl, hbad⟩ | ⟨rfl, ⟨hk1', hst, hle⟩, hA, hFr⟩
        · exact absurd (by rw [hpre, upto_length]) hbad
        · have bS9 := bS0.frm hFr (by simp; omega)
          have bR9 := bR0.frm hFr (by simp; omega)
          have bW9 := bW0.frm hFr (by simp; omega)
          have bT9 := bT0.frm hFr (by simp; omega)
          have hrow9 := hrow0.frm hFr (fun x hx hm => own_blk_ne hrow0 bA (by decide) (by rw [hx]; congr 1; simpa using hm))
          have hF9 : Frm [] w W' := hF0.trans hFr (fun x hx => .inr (by have := hF0.size; simp at hx; omega))
          have hrs9 : ∀ r ∈ D :: rs, w.heap.size ≤ r ∧ W'.heap[r]? = some (.deferred (some [])) := fun r hr => by
            rcases List.mem_cons.1 hr with rfl | hr
            · exact ⟨by have := hF0.size; omega, hK⟩
            · obtain ⟨⟨h1, h2⟩, h3⟩ := hrs0 r hr
              exact ⟨h1, (hFr.block r (by omega) (by simp; omega)).trans h3⟩
          have hnd9 : (D :: rs).Nodup := List.nodup_cons.2 ⟨fun hm => by have := (hrs0 D hm).1; omega, hnd⟩
          have cW := bW9.cell 0
          have cA := hA.cell 0
          have cK : W'.cell? ⟨g, 0, none⟩ = some (.int .i64 J) := (bK.frm hFr (by simp)).cell 0
          have cS := bS9.cell 0
          have eK : (J != 1) = false := by simp [hk1']
          have est : ((pre.length : Int) != stop) = false := by rw [hst]; simp
          by_cases hjm : pre.length = m
          · have ejm : ((pre.length : Int) != (m : Int)) = false := by simp [hjm]
            clear hst hpre hjm
            have hwk : wrap64 (J + 1) = J + 1 := by unfold wrap64; omega
            gi_wp2
            clear hwk
            first
              | exact ⟨⟨J + 1, D :: rs, _, _, _, _, _, _, _, _, _, _, _, _, _, _, _, _, _, _, _, _, _, _, _, _, _, _, _, _, _, _, _, _, _, _, _, _, _, _, _, _, _, _, _, _, _, _, _, _, _, _, _, _, _, _, _, _, _, _, _, _, _, _, _, _, _, _, _, _, _, by omega, rfl, bS9, bR9, bW9, bT9, hrow9, hF9, hnd9, hrs9⟩, by simp [intOf]; omega⟩
              | exact ⟨⟨2, D :: rs, _, _, _, _, _, _, _, _, _, _, _, _, _, _, _, _, _, _, _, _, _, _, _, _, _, _, _, _, _, _, _, _, _, _, _, _, _, _, _, _, _, _, _, _, _, _, _, _, _, _, _, _, _, _, _, _, _, _, _, _, _, _, _, _, _, _, _, _, _, by omega, rfl, bS9, bR9, bW9, bT9, hrow9, hF9, hnd9, hrs9⟩, by simp [intOf]; omega⟩
          · have ejm : ((pre.length : Int) != (m : Int)) = true := by rw [bne_iff_ne]; omega
            clear hst hpre
            have hwk : wrap64 (J + 1) = J + 1 := by unfold wrap64; omega
            gi_wp2
            clear hwk
            first
              | exact ⟨⟨J + 1, D :: rs, _, _, _, _, _, _, _, _, _, _, _, _, _, _, _, _, _, _, _, _, _, _, _, _, _, _, _, _, _, _, _, _, _, _, _, _, _, _, _, _, _, _, _, _, _, _, _, _, _, _, _, _, _, _, _, _, _, _, _, _, _, _, _, _, _, _, _, _, _, by omega, rfl, bS9, bR9, bW9, bT9, hrow9, hF9, hnd9, hrs9⟩, by simp [intOf]; omega⟩
              | exact ⟨⟨2, D :: rs, _, _, _, _, _, _, _, _, _, _, _, _, _, _, _, _, _, _, _, _, _, _, _, _, _, _, _, _, _, _, _, _, _, _, _, _, _, _, _, _, _, _, _, _, _, _, _, _, _, _, _, _, _, _, _, _, _, _, _, _, _, _, _, _, _, _, _, _, _, by omega, rfl, bS9, bR9, bW9, bT9, hrow9, hF9, hnd9, hrs9⟩, by simp [intOf]; omega⟩
    · obtain rfl : J = 3 := by omega
      have cR := bR.cell 0
      have fR := bR.frozen 0
      gi_wp2
      have bR9 : Blk (W.setCell ⟨b + 1, 0, none⟩ (.bool true)) (b + 1) 4 #[.bool true] := by
        have := bR.set_ 0 (.bool true)
        simpa using this
      refine leaves_marks rs _ hnd (fun r hr => ?_) (fun W' hk' hf' => ?_)
      · rw [Below.heap_setCell W ⟨b + 1, 0, none⟩ (.bool true) r (fun e => by
          have h2 := (hrs r hr).2
          have e' : r = b + 1 := e
          unfold Blk at bR
          rw [e', bR] at h2
          cases h2)]
        exact (hrs r hr).2
      · have bR' : Blk W' (b + 1) 4 #[.bool true] := hk' _ _ bR9 rfl
        have c5 : W'.cell? ⟨b + 1, 0, none⟩ = some (.bool true) := bR'.cell 0
        refine ⟨.bool true, ?_, rfl, (hF.setCell (p := ⟨b + 1, 0, none⟩) (.inr (show w.heap.size ≤ b + 1 by omega)) _).trans hf' (fun x hx => .inr (hrs x hx).1)⟩
        simp [results, Tryd.f6, go_sem, c5]
