/-
  The contract of chunk.read: the samples ahead of the first fault, and its error.
-/
import Derived.Test.YtdnllmibchmnnaaDoorRdr
namespace Go.Proofs.YtdnllmibchmnnaaDoor
set_option linter.unusedVariables false
set_option linter.unusedSimpArgs false
open Go.RowKit Go.BigFrame

/-- What reading a chunk leaves: a new row of the samples ahead of the first fault, and its error. -/
def NewRd (e : TypeId) (l : List Nat) (w : World) (r : Ending) (w' : World) : Prop :=
  ∃ v, r = .returned (.tuple #[v, .int .i64 (rdM l).2]) ∧ SRow w' e v (rdM l).1 (rdF (rdL l)) ∧ Fresh w.heap.size v ∧ Frm [] w w'

theorem cread_results (tmps : Array Value) (w : World) (b : Nat) (x : Int) (v : Value) (h2 : tmps.getD 2 undef = v) (h3 : tmps.getD 3 undef = .pointer (some ⟨b, 0, none⟩)) (hc : w.cell? ⟨b, 0, none⟩ = some (.int .i64 x)) :
    (results Tryd.f43 tmps).run Tryd.prog w = .ok (.tuple #[v, .int .i64 x]) w := by
  simp only [results, Tryd.results43]
  have h2' : tmps[2]?.getD undef = v := by simpa using h2
  have h3' : tmps[3]?.getD undef = .pointer (some ⟨b, 0, none⟩) := by simpa using h3
  simp [go_sem, h2', h3', hc]

/-- The reader in its blocks, the error's block and the row, all new since w. -/
structure RqSt (w wr : World) (g h b : Nat) (s : ByteArray) (c : Rs) (v : Value) (k : Nat) (F : Nat → Smp) : Prop where
  rd : RdAt wr g h s c
  eb : Blk wr b 23 #[.int .i64 0]
  row : SRow wr 37 v k F
  fv : Fresh w.heap.size v
  g0 : w.heap.size ≤ g
  h0 : w.heap.size ≤ h
  b0 : w.heap.size ≤ b
  frm : Frm [] w wr

set_option maxRecDepth 100000 in
set_option maxHeartbeats 4000000 in
theorem cread_any (s : ByteArray) (hs : s.size ≤ 140737488355328) (w : World) :
    Calls Tryd.prog 43 #[.string s] w (NewRd 37 (bl s) w) := by
  have hcall := readuint_any s 0 hs
  have hmf : ∀ (fn : Fn) (first cap : Array Value) (w : World), (Instr.makeFunc fn first cap).run Tryd.prog w = .ok (.func fn first cap) w := fun _ _ _ _ => rfl
  have hM : rdM (bl s) = if (readU (bl s) 0).2.2 ≠ 0 then (0, ((readU (bl s) 0).2.2 : Int)) else if 120 < (readU (bl s) 0).1 then (0, 92) else rdE (unpack ((bl s).drop (readU (bl s) 0).2.1)) (readU (bl s) 0).1 := rfl
  have hL : rdL (bl s) = unpack ((bl s).drop (readU (bl s) 0).2.1) := rfl
  have hlt := readU_lt (bl s) 0
  have hnx := readU_next (bl s) 0
  rw [bl_length] at hnx
  obtain ⟨r, hr⟩ : ∃ r, readU (bl s) 0 = r := ⟨_, rfl⟩
  rw [hr] at hcall hM hL hlt hnx
  obtain ⟨n, at_, er⟩ := r
  simp only [tellU] at hcall hM hL hlt hnx
  have Hcall := hide hcall
  clear hcall hr
  by_cases he : er = 0
  · subst he
    obtain ⟨_, hp, hle⟩ := hnx rfl
    rw [if_neg (by simp)] at hM
    have hz : (((0 : Nat) : Int) != 0) = false := by decide
    by_cases hn : 120 < n
    · rw [if_pos hn] at hM
      have HM := hide hM
      have HL := hide hL
      have hng : (120 : Int) < (n : Int) := by omega
      clear hM hL
      go_enter_defers Tryd.func43, Tryd.ntmps43
      go_wp2_with fail
      refine (Hcall.out _).mono ?_
      rintro e w' ⟨rfl, rfl⟩
      go_wp2_with fail
      refine ⟨_, cread_results _ _ w.heap.size 92 _ rfl rfl (by simp [go_sem]), _, by rw [HM.out]; rfl, by rw [HM.out]; exact SRow.nil _ _ _, Fresh.nil _, ?_⟩
      exact (Frm.refl [] w).alloc _
    · rw [if_neg hn] at hM
      have hn2 : n ≤ 120 := by omega
      have hng : decide ((120 : Int) < (n : Int)) = false := decide_eq_false (by omega)
      have hsl := slice_from (P := Tryd.prog) Tryd.underlying9 s at_ (at_ : Int) rfl hle
      have hrs : (s.extract at_ s.size).size ≤ 140737488355328 := by rw [ByteArray.size_extract]; omega
      have hbl := bl_from s at_
      generalize s.extract at_ s.size = q at hsl hrs hbl
      rw [← hbl] at hM hL
      obtain ⟨L, hLL⟩ : ∃ L, unpack (bl q) = L := ⟨_, rfl⟩
      have hsm := fun (g h : Nat) (c : Rs) hk hn W H => rdsample_any g h q hrs c hk hn W H
      rw [hLL] at hM hL hsm
      have HM := hide hM
      have HL := hide hL
      have Hsm := hide hsm
      clear hM hL hsm hLL hbl hn
      go_enter_defers Tryd.func43, Tryd.ntmps43
      go_wp2_with fail
      refine (Hcall.out _).mono ?_
      rintro e w' ⟨rfl, rfl⟩
      go_wp2_with fail
      refine (open_any q _).mono ?_
      rintro e w' ⟨rfl, rfl⟩
      go_wp2_with fail
      have hE : RqSt w (((w.alloc (.cells #[.int .i64 0] 23)).alloc (.cells #[.string q, .int .i64 0] 108)).alloc (.cells #[.pointer (some ⟨w.heap.size + 1, 0, none⟩), .slice none 0 0, .int .i64 0, .int .i64 0, .int .i64 0, .int .u64 0, .int .i64 0, .int .i64 0, .int .i64 0, .bool false] 103)) (w.heap.size + 1 + 1) (w.heap.size + 1) w.heap.size q rs0 (.slice none 0 0) 0 (rdF L) := by
        refine ⟨⟨?_, ?_, Nat.zero_le _⟩, ((Blk.new w _ _).alloc _).alloc _, SRow.nil _ _ _, Fresh.nil _, by omega, by omega, Nat.le_refl _, (((Frm.refl [] w).alloc _).alloc _).alloc _⟩
        · have := Blk.new ((w.alloc (.cells #[.int .i64 0] 23)).alloc (.cells #[.string q, .int .i64 0] 108)) 103 #[.pointer (some ⟨w.heap.size + 1, 0, none⟩), .slice none 0 0, .int .i64 0, .int .i64 0, .int .i64 0, .int .u64 0, .int .i64 0, .int .i64 0, .int .i64 0, .bool false]
          simp only [World.size_alloc] at this
          exact this
        · have := Blk.new (w.alloc (.cells #[.int .i64 0] 23)) 108 #[.string q, .int .i64 0]
          simp only [World.size_alloc] at this
          exact this.alloc _
      generalize (((w.alloc (.cells #[.int .i64 0] 23)).alloc (.cells #[.string q, .int .i64 0] 108)).alloc (.cells #[.pointer (some ⟨w.heap.size + 1, 0, none⟩), .slice none 0 0, .int .i64 0, .int .i64 0, .int .i64 0, .int .u64 0, .int .i64 0, .int .i64 0, .int .i64 0, .bool false] 103)) = w3 at hE ⊢
      obtain ⟨g, hg⟩ : ∃ g, g = w.heap.size + 1 + 1 := ⟨_, rfl⟩
      rw [← hg] at hE ⊢
      obtain ⟨h, hh⟩ : ∃ h, h = w.heap.size + 1 := ⟨_, rfl⟩
      rw [← hh] at hE ⊢
      obtain ⟨b, hb⟩ : ∃ b, b = w.heap.size := ⟨_, rfl⟩
      rw [← hb] at hE ⊢
      have hgb : g ≠ b := by omega
      have hhb : h ≠ b := by omega
      clear hg hh hb
      go_loopw [2, 28] (fun v2 i wr => ∃ (k : Nat) (c : Rs), k ≤ n ∧ i = .int .u64 (k : Int) ∧ RqSt w wr g h b q c v2 k (rdF L) ∧ Hid (rdS L k = .ok c)) (fun _ i _ => n - (intOf i).toNat)
      case atStart => exact ⟨0, rs0, Nat.zero_le _, rfl, hE, hide rfl⟩
      case round =>
        clear hE
        obtain ⟨k, c, hk, rfl, hS, hres⟩ := hrel
        obtain ⟨hck, hcn⟩ := rdS_form k c hres.out
        have hsz := hS.frm.size
        have hb0 := hS.b0
        obtain ⟨A1, c1, hsh⟩ := hS.row.shape
        by_cases hlt : k < n
        · have hcall := Hsm.out g h c hck (by omega) _ hS.rd
          cases hsr : smpR L c with
          | error er =>
            rw [hsr] at hcall
            have hM2 : rdM (bl s) = (k, er) := by rw [HM.out]; exact rdE_err hres.out (rdS_err hres.out hsr) (by rcases smpR_err hsr with h | h | h | h <;> omega) n hlt
            have HM2 := hide hM2
            have Hc := hide hcall
            have HS := hide hS
            clear hcall hM2 hsr HM hsh hS
            go_wp2_with fail
            refine Hc.out.mono ?_
            rintro e w5 ⟨rfl, hf5⟩
            unfold thr
            have hb5 : Blk w5 b 23 #[.int .i64 0] := HS.out.eb.frm hf5 (by simp; omega)
            have hrow5 := own_frm HS.out.row hf5 (fun x hx => by
              have h1 := own_blk_ne HS.out.row HS.out.rd.st (by decide)
              have h2 := own_blk_ne HS.out.row HS.out.rd.rd (by decide)
              intro hm
              simp only [List.mem_cons, List.not_mem_nil, or_false] at hm
              rcases hm with rfl | rfl
              · exact h1 hx
              · exact h2 hx)
            have hF5 : Frm [] w w5 := HS.out.frm.trans hf5 (fun x hx => by
              simp only [List.mem_cons, List.not_mem_nil, or_false] at hx
              rcases hx with rfl | rfl
              · exact .inr HS.out.g0
              · exact .inr HS.out.h0)
            go_wp2_with fail
            refine leaves_cons (f := 54) (args := #[.pointer (some ⟨b, 0, none⟩)]) (by simp) (by simp [go_sem]) ?_
            refine (catch_panicking ⟨b, 0, none⟩ 0 er [] _ (hb5.cell 0) (hb5.frozen 0)).mono ?_
            rintro e u' w6 ⟨rfl, rfl, rfl⟩
            have hb6 := hb5.set_ 0 (.int .i64 er)
            refine ⟨_, cread_results _ _ b er _ rfl rfl (hb6.cell 0), _, by rw [HM2.out]; rfl, ?_, HS.out.fv, hF5.setCell (p := ⟨b, 0, none⟩) (.inr hb0) _⟩
            rw [HM2.out, HL.out]
            exact ownsRow_setCell_other hrow5 (a := ⟨b, 0, none⟩) (own_blk_ne hrow5 hb5 (by decide)) _
          | ok c2 =>
            rw [hsr] at hcall
            have hres2 := rdS_ok hres.out hsr
            have hFk := rdF_ok hres2
            have Hc := hide hcall
            have HS := hide hS
            have Hres2 := hide hres2
            clear hcall hsr HM hS hres2
            subst hsh
            go_wp2_with fail
            refine Hc.out.mono ?_
            rintro e w5 ⟨rfl, hR5, hf5⟩
            unfold sV
            have hn1 : ∀ x, (Value.slice A1 k c1).ownBlock = some x → x ∉ [g, h] := fun x hx => by
              have h1 := own_blk_ne HS.out.row HS.out.rd.st (by decide)
              have h2 := own_blk_ne HS.out.row HS.out.rd.rd (by decide)
              intro hm
              simp only [List.mem_cons, List.not_mem_nil, or_false] at hm
              rcases hm with rfl | rfl
              · exact h1 hx
              · exact h2 hx
            have hb5 : Blk w5 b 23 #[.int .i64 0] := HS.out.eb.frm hf5 (by simp; omega)
            have hrow5 : SRow w5 37 (.slice A1 k c1) k (rdF L) := own_frm HS.out.row hf5 hn1
            have hF5 : Frm [] w w5 := HS.out.frm.trans hf5 (fun x hx => by
              simp only [List.mem_cons, List.not_mem_nil, or_false] at hx
              rcases hx with rfl | rfl
              · exact .inr HS.out.g0
              · exact .inr HS.out.h0)
            have hgr := own_blk_ne hrow5 hR5.st (by decide)
            have hhr := own_blk_ne hrow5 hR5.rd (by decide)
            have hbr := own_blk_ne hrow5 hb5 (by decide)
            obtain ⟨v', w6, hr, hown, hf6, hg6⟩ := append_smp (ty := 22) Tryd.underlying22 smpinfo w5 hrow5 ⟨c2.t, c2.v⟩ hFk (by omega)
            simp only [Smp.arr] at hr
            have Hr := hide hr
            clear hr hFk
            go_wp2_with (at_builtin; refine wp_append_known rfl (.tmp 30) (.tmp 33) 22 22 rfl rfl rfl Hr.out ?_)
            go_roundw
            case measure => simp [intOf]; omega
            case rel =>
              refine ⟨k + 1, c2, by omega, by go_num, ⟨⟨hR5.st.frm hf6 (not_row hgr), hR5.rd.frm hf6 (not_row hhr), hR5.le⟩, hb5.frm hf6 (not_row hbr), hown, ?_, HS.out.g0, HS.out.h0, HS.out.b0, hF5.trans hf6 HS.out.fv.row⟩, Hres2⟩
              exact HS.out.fv.grew hg6 hF5.size
        · obtain rfl : k = n := by omega
          have hM2 : rdM (bl s) = (k, 0) := by rw [HM.out]; exact rdE_ok hres.out
          have HM2 := hide hM2
          have f0 : wr.frozen? ⟨b, 0, none⟩ = false := hS.eb.frozen 0
          have x0 : wr.cell? ⟨b, 0, none⟩ = some (.int .i64 0) := hS.eb.cell 0
          clear hM2 HM
          go_wp2_with fail
          refine leaves_cons (f := 54) (args := #[.pointer (some ⟨b, 0, none⟩)]) (by simp) (by simp [go_sem]) ?_
          refine (catch_idle ⟨b, 0, none⟩ _).mono ?_
          rintro e u' w6 ⟨rfl, rfl, rfl⟩
          have hb6 := hS.eb.set_ 0 (.int .i64 0)
          refine ⟨_, cread_results _ _ b 0 _ rfl rfl (hb6.cell 0), _, by rw [HM2.out]; rfl, ?_, hS.fv, hS.frm.setCell (p := ⟨b, 0, none⟩) (.inr hb0) _⟩
          rw [HM2.out, HL.out]
          exact ownsRow_setCell_other hS.row (a := ⟨b, 0, none⟩) (own_blk_ne hS.row hS.eb (by decide)) _
  · have hM2 : rdM (bl s) = (0, (er : Int)) := by rw [hM, if_pos he]
    have HM := hide hM2
    have HL := hide hL
    have hne : ((er : Int) != 0) = true := by rw [bne_iff_ne]; omega
    clear hM hM2 hnx hL he
    go_enter_defers Tryd.func43, Tryd.ntmps43
    go_wp2_with fail
    refine (Hcall.out _).mono ?_
    rintro e w' ⟨rfl, rfl⟩
    go_wp2_with fail
    go_region
    go_wp2_with fail
    refine ⟨_, cread_results _ _ w.heap.size (er : Int) _ rfl rfl (by simp [go_sem]), _, by rw [HM.out]; rfl, by rw [HM.out]; exact SRow.nil _ _ _, Fresh.nil _, ?_⟩
    exact ((Frm.refl [] w).alloc _).drew

end Go.Proofs.YtdnllmibchmnnaaDoor
