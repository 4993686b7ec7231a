/-
  The contracts of what the laws of layer 9 share: twin, ref, alike, wakes; the document's Encode.
-/
import Derived.Test.YtdnllmibchmnnaaDoorRby
import Derived.Outline
namespace Go.Proofs.YtdnllmibchmnnaaDoor
set_option linter.unusedVariables false
set_option linter.unusedSimpArgs false
open Go.RowKit Go.BigFrame

/-- An append whose run is known. -/
theorem wp_append_known {P : Program} {ops : Array Oper} {rest : List Oper} {o : Oper} {a : Act} {Q : Exit → Act → World → Prop} {w w' : World} (hgd : o.guard = none) (s x : Operand) (t u : TypeId)
    (ho : o.op = .call { callee := .builtin .append, args := #[s, x], argTypes := #[t, u] }) {v y v' : Value} (hs : a.eval s = v) (hx : a.eval x = y)
    (hr : (Builtin.append_ #[t, u] o.type #[v, y]).run P w = .ok v' w') (h : wpList P ops Q rest (a.put o.dst v') w') : wpList P ops Q (o :: rest) a w := by
  refine wpList_plain hgd fun K hK => ?_
  unfold Oper.wp execOp
  simp only [ho, resolve, invoke, builtin, Sem.run_bind, Sem.run_pure, Result.andThen_ok, List.map_toArray, List.map_cons, List.map_nil, hs, hx, hr]
  exact hK _ _ h

/-- A new row of n samples behind the call. -/
def NewSmp (e : TypeId) (n : Nat) (F : Nat → Smp) (w : World) (r : Ending) (w' : World) : Prop :=
  ∃ v, r = .returned v ∧ SRow w' e v n F ∧ Fresh w.heap.size v ∧ Frm [] w w'

set_option maxRecDepth 100000 in
set_option maxHeartbeats 1000000 in
theorem twin_any (A : Option Addr) (n cap : Nat) (F : Nat → Smp) (hn : n * 16 ≤ 140737488351232) (w : World) (hc : CellsAt w A n 2 (fun i j => (F i).cell j)) :
    Calls Tryd.prog 12 #[.slice A n cap] w (NewSmp 37 n F w) := by
  obtain ⟨v, w1, hr, hown, hf, hg⟩ := append_smps (ty := 22) Tryd.underlying22 smpinfo w A n cap F (SRow.nil w _ F) hc hn
  have Hr := hide hr
  clear hr
  go_enter Tryd.func12, Tryd.ntmps12
  go_wp2_with (at_builtin; refine wp_append_known rfl (.const (.slice none 0 0)) (.tmp 3) 22 22 rfl rfl rfl Hr.out ?_)
  go_ret
  exact ⟨v, rfl, hown, (Fresh.nil _).grew hg (Nat.le_refl _), hf⟩

set_option maxRecDepth 100000 in
set_option maxHeartbeats 1000000 in
theorem ref_any (A : Option Addr) (n cap : Nat) (F : Nat → Smp) (hn : n * 16 ≤ 140737488351232) (w : World) (hc : CellsAt w A n 2 (fun i j => (F i).cell j)) :
    Calls Tryd.prog 14 #[.slice A n cap] w (NewSmp 45 n F w) := by
  go_enter Tryd.func14, Tryd.ntmps14
  go_wp2
  go_loopw [3, 8] (fun x i wr => ∃ k : Nat, k ≤ n ∧ i = .int .i64 (k : Int) ∧ SRow wr 45 x k F ∧ Fresh w.heap.size x ∧ Frm [] w wr) (fun _ i _ => n - (intOf i).toNat)
  case atStart => exact ⟨0, by omega, rfl, SRow.nil _ _ _, Fresh.nil _, Frm.refl _ _⟩
  case round =>
    obtain ⟨k, hk, rfl, hrow, hfr, hf⟩ := hrel
    obtain ⟨A1, c1, hsh⟩ := hrow.shape
    by_cases hlt : k < n
    · obtain ⟨sb, off, rfl, hsb, c0, c1'⟩ := smp_at (hc.frm hf) hlt
      rcases hFk : F k with ⟨t, v⟩
      rw [hFk] at c0 c1'
      simp only at c0 c1'
      have hrow1 : SRow (wr.alloc (.cells #[.int .i64 t, .int .u64 (v : Int)] 37)) _ _ k F := hrow.quiet ((Frm.refl _ _).alloc _)
      obtain ⟨v', w2, hr, hown, hf2, hg2⟩ := append_smp (ty := 29) Tryd.underlying29 smpfor _ hrow1 ⟨t, v⟩ hFk (by omega)
      simp only [Smp.arr, World.size_alloc] at hr
      have Hr := hide hr
      have HF := hide hFk
      clear hr hFk
      subst hsh
      go_wp2_with (at_builtin; refine wp_append_known rfl (.tmp 12) (.tmp 18) 29 29 rfl rfl rfl Hr.out ?_)
      go_roundw
      case measure => simp [intOf]; omega
      case rel =>
        refine ⟨k + 1, by omega, by go_num, hown, ?_, ?_⟩
        · refine (hfr.grew hg2 ?_)
          have := hf.size
          simp
          omega
        · exact (hf.alloc _).trans hf2 hfr.row
    · obtain rfl : k = n := by omega
      subst hsh
      go_wp2
      go_ret
      exact ⟨_, rfl, hrow, hfr, hf⟩

set_option maxRecDepth 100000 in
set_option maxHeartbeats 1000000 in
/-- Lists that hold the same samples are alike. -/
theorem alike_any (A : Option Addr) (n cap : Nat) (F : Nat → Smp) (B : Option Addr) (capb : Nat) (hn : n * 16 ≤ 140737488351232) (w : World) (ha : CellsAt w A n 2 (fun i j => (F i).cell j)) (hb : CellsAt w B n 2 (fun i j => (F i).cell j)) :
    Calls Tryd.prog 26 #[.slice A n cap, .slice B n capb] w fun e w' => e = .returned (.bool true) ∧ Frm [] w w' := by
  go_enter Tryd.func26, Tryd.ntmps26
  go_wp2_with fail
  go_loopw [13] (fun i wr => ∃ k : Nat, k ≤ n ∧ i = .int .i64 (k : Int) ∧ Frm [] w wr) (fun i _ => n - (intOf i).toNat)
  case atStart => exact ⟨0, by omega, rfl, Frm.refl _ _⟩
  case round =>
    obtain ⟨k, hk, rfl, hfk⟩ := hrel
    by_cases hlt : k < n
    · obtain ⟨sb, off, rfl, hsb, c0, c1⟩ := smp_at (ha.frm hfk) hlt
      obtain ⟨tb, tof, rfl, htb, d0, d1⟩ := smp_at (hb.frm hfk) hlt
      have b1 : (0 : Int) ≤ (k : Int) := by omega
      have b2 : (k : Int) < (n : Int) := by omega
      have e1 : ((F k).t != (F k).t) = false := by simp
      have e2 : ((((F k).v : Nat) : Int) != (((F k).v : Nat) : Int)) = false := by simp
      go_wp2_with fail
      go_quiet (fail)
      go_wp2
      go_roundw
      case measure => simp [intOf]; omega
      case rel => exact ⟨k + 1, by omega, by go_num, hfk.drewN _⟩
    · obtain rfl : k = n := by omega
      go_wp2
      go_ret
      exact ⟨rfl, hfk⟩

/-- The two samples of the guard. -/
def wakeF (i : Nat) : Smp := if i = 0 then ⟨0, 0⟩ else ⟨1, 0⟩
theorem wakeF_tell : tellC wakeF 2 = .tuple #[.string { data := #[2, 0, 0, 0, 0, 0, 0, 0, 0, 0, 0, 0, 0, 0, 0, 0, 0, 128, 128] }, .int .i64 0] := by
  unfold tellC
  rw [if_pos (by decide +kernel)]
  have : bstr (ckB (ckN wakeF 2)) = { data := #[2, 0, 0, 0, 0, 0, 0, 0, 0, 0, 0, 0, 0, 0, 0, 0, 0, 128, 128] } := by
    apply bl_inj
    rw [bl_bstr _ (by decide +kernel)]
    decide +kernel
  rw [this]
theorem wakeF_ok : ∀ i, i < 2 → (wakeF i).Ok := by
  intro i hi
  obtain rfl | rfl : i = 0 ∨ i = 1 := by omega
  · exact ⟨by decide, by decide, by decide⟩
  · exact ⟨by decide, by decide, by decide⟩

set_option maxRecDepth 100000 in
set_option maxHeartbeats 1000000 in
theorem wakes_any (w : World) (hD : DbAt w) :
    Calls Tryd.prog 15 #[] w fun e w' => e = .returned (.bool true) ∧ Frm [] w w' := by
  have hB := Blk.new w 37 #[.int .i64 0, .int .u64 0, .int .i64 1, .int .u64 0]
  have hc : CellsAt (w.alloc (.cells #[.int .i64 0, .int .u64 0, .int .i64 1, .int .u64 0] 37)) (some ⟨w.heap.size, 0, none⟩) 2 2 (fun i j => (wakeF i).cell j) := by
    intro _
    refine ⟨w.heap.size, 0, rfl, hB.lt, fun i j hi hj => ?_⟩
    have h := hB.cell (0 + (i * 2 + j))
    rw [h]
    obtain rfl | rfl : i = 0 ∨ i = 1 := by omega
    · obtain rfl | rfl : j = 0 ∨ j = 1 := by omega
      all_goals rfl
    · obtain rfl | rfl : j = 0 ∨ j = 1 := by omega
      all_goals rfl
  have hf0 : Frm [] w _ := (Frm.refl [] w).alloc (.cells #[.int .i64 0, .int .u64 0, .int .i64 1, .int .u64 0] 37)
  have henc := cencode_any (some ⟨w.heap.size, 0, none⟩) 2 2 wakeF wakeF_ok (by decide) _ (hD.frm hf0) hc
  rw [wakeF_tell] at henc
  have Henc := hide henc
  clear henc hc hB
  go_enter Tryd.func15, Tryd.ntmps15
  go_wp2_with fail
  refine Henc.out.mono ?_
  rintro e w1 ⟨rfl, hf1⟩
  go_wp2_with fail
  go_ret
  exact ⟨rfl, hf0.trans hf1 (by simp)⟩

theorem rflt_ckFa (F : Nat → Smp) (k : Nat) (h : ckFa F k = 0) (hok : ∀ i, i < k → (F i).Ok) : rflt F k (F k).t = appF (ckN F k) (F k).t := by
  have := (ckN_ok F k hok k (Nat.le_refl _) h).n
  rw [ckN_n] at this
  exact rflt_same F k this _

set_option maxRecDepth 100000 in
set_option maxHeartbeats 2000000 in
theorem rencode_any (A : Option Addr) (n cap : Nat) (hnc : n ≤ cap) (F : Nat → Smp) (hok : ∀ i, i < n → (F i).Ok) (hn : n * 16 ≤ 140737488351232) (w : World) (hc : CellsAt w A n 2 (fun i j => (F i).cell j)) :
    Calls Tryd.prog 13 #[.slice A n cap] w fun e w' => e = .returned (tellC F n) ∧ Frm [] w w' := by
  go_enter Tryd.func13, Tryd.ntmps13
  go_wp2_with fail
  go_loopw [4] (fun i wr => ∃ k : Nat, k ≤ n ∧ i = .int .i64 (k : Int) ∧ Frm [] w wr ∧ Hid (ckFa F k = 0)) (fun i _ => n - (intOf i).toNat)
  case atStart => exact ⟨0, by omega, rfl, Frm.refl _ _, hide rfl⟩
  case round =>
    obtain ⟨k, hk, rfl, hf, hff⟩ := hrel
    by_cases hlt : k < n
    · obtain ⟨sb, off, rfl, hsb, c0, c1⟩ := smp_at (hc.frm hf) hlt
      have hlt2 := hide hlt
      have hfa := fun W h => rfault_any (some ⟨sb, off, none⟩) k cap F (by omega) (F k).t (F k).v W h
      have hcells : ∀ (u : Wd wr), CellsAt u.w1 (some ⟨sb, off, none⟩) k 2 (fun i j => (F i).cell j) := fun u hk0 => by
        obtain ⟨b', o', hA, hb', hcc⟩ := ((hc.frm hf).frm u.frm) (by have := hlt2.out; omega)
        exact ⟨b', o', hA, hb', fun i j hi hj => hcc i j (by have := hlt2.out; omega) hj⟩
      have u0 : ∀ (u : Wd wr), u.w1.cell? ⟨sb, off + k * 2, none⟩ = some (.int .i64 (F k).t) := fun u => (u.frm.cell (p := ⟨sb, _, none⟩) hsb (by simp)).trans c0
      have u1 : ∀ (u : Wd wr), u.w1.cell? ⟨sb, off + k * 2 + 1, none⟩ = some (.int .u64 ((F k).v : Int)) := fun u => (u.frm.cell (p := ⟨sb, _, none⟩) hsb (by simp)).trans c1
      have b1 : (0 : Int) ≤ (k : Int) := by omega
      have b2 : (k : Int) < (n : Int) := by omega
      have b3 : (k : Int) ≤ (cap : Int) := by omega
      have hrf := rflt_ckFa F k hff.out (fun i hi => hok i (by omega))
      have hfs : ckFa F (k + 1) = appF (ckN F k) (F k).t := by rw [ckFa, if_pos hff.out]
      rw [hrf] at hfa
      by_cases hf0 : appF (ckN F k) (F k).t = 0
      · rw [hf0] at hfa
        have hf1 : ckFa F (k + 1) = 0 := hfs.trans hf0
        have Hf1 := hide hf1
        have Hfa := hide hfa
        clear hfa hf1 hfs hrf hf0 c0 c1
        go_wp2_with fail
        refine wp_region_frm (by kernel_rfl) (by kernel_rfl) ?_
        repeat (go_big_quiet_step (first | (go_at_call 16; exact calls_frm (Hfa.out _ (hcells _)))))
        refine wpQuiet_nil ?_
        rintro _ ⟨u, rfl⟩
        go_wp2_with fail
        go_roundw
        case measure => have := hlt2.out; simp [intOf]; omega
        case rel => exact ⟨k + 1, by have := hlt2.out; omega, by go_num, hf.trans u.frm (by simp), Hf1⟩
      · have hx : ckFa F n = appF (ckN F k) (F k).t := by rw [ckFa_stays F (k + 1) (by rw [hfs]; exact hf0) n (by omega), hfs]
        have htell : tellC F n = .tuple #[.string (bstr []), .int .i64 (appF (ckN F k) (F k).t)] := by unfold tellC; rw [if_neg (by rw [hx]; exact hf0), hx]
        have hne : (appF (ckN F k) (F k).t != 0) = true := by rw [bne_iff_ne]; exact hf0
        clear hfs hrf hx hf0
        generalize appF (ckN F k) (F k).t = er at htell hne hfa
        have Htell := hide htell
        have Hfa := hide hfa
        clear htell hfa c0 c1
        go_wp2_with fail
        refine wp_region_frm (by kernel_rfl) (by kernel_rfl) ?_
        repeat (go_big_quiet_step (first | (go_at_call 16; exact calls_frm (Hfa.out _ (hcells _)))))
        refine wpQuiet_nil ?_
        rintro _ ⟨u, rfl⟩
        go_wp2_with fail
        go_ret2
        exact ⟨by rw [Htell.out]; rfl, hf.trans u.frm (by simp)⟩
    · obtain rfl : k = n := by omega
      have hby := rckbytes_any A k cap F hok hff.out
      have htell : tellC F k = .tuple #[.string (bstr (ckB (ckN F k))), .int .i64 0] := by unfold tellC; rw [if_pos hff.out]
      have Htell := hide htell
      clear htell
      go_wp2_with fail
      refine (hby _ (hc.frm hf)).mono ?_
      rintro e w1 ⟨rfl, hf1⟩
      go_wp2_with fail
      go_ret2
      exact ⟨by rw [Htell.out]; rfl, hf.trans hf1 (by simp)⟩

end Go.Proofs.YtdnllmibchmnnaaDoor
