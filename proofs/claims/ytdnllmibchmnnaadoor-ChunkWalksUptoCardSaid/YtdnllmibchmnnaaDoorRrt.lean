/-
  The contract of the document's take.
-/
import Derived.Test.YtdnllmibchmnnaaDoorRdm
import Derived.Test.YtdnllmibchmnnaaDoorRefb
import Derived.Test.YtdnllmibchmnnaaDoorQui
import Derived.Deep.RegionHeld3
namespace Go.Proofs.YtdnllmibchmnnaaDoor
set_option linter.unusedVariables false
set_option linter.unusedSimpArgs false
open Go.RowKit Go.BigFrame

/-- The window's lead as the document's reader keeps it. -/
def ldR (c : Rs) : Int := if c.win = true then c.lead else -1

/-- The document's reader in block g, its bits in the row V. -/
structure RfAt (w : World) (g : Nat) (V : Value) (L : List Bool) (c : Rs) (f : Int) : Prop where
  st : Blk w g 77 #[V, .int .i64 (c.p : Int), .int .i64 f, .int .i64 c.step, .int .i64 (ldR c), .int .i64 c.tail]
  row : BitRow w V L
  le : c.p ≤ L.length
theorem RfAt.quiet {w w' : World} {g : Nat} {V : Value} {L : List Bool} {c : Rs} {f : Int} (H : RfAt w g V L c f) (hf : Frm [] w w') : RfAt w' g V L c f := ⟨H.st.frm hf (by simp), own_frm H.row hf (by simp), H.le⟩
theorem RfAt.ne {w : World} {g : Nat} {V : Value} {L : List Bool} {c : Rs} {f : Int} (H : RfAt w g V L c f) : V.ownBlock ≠ some g := own_blk_ne H.row H.st (by decide)
theorem RfAt.at_ {w : World} {g : Nat} {V : Value} {L : List Bool} {c : Rs} {f : Int} (H : RfAt w g V L c f) (p : Nat) (hp : p ≤ L.length) : RfAt (w.setCell ⟨g, 1, none⟩ (.int .i64 (p : Int))) g V L { c with p := p } f := by
  refine ⟨?_, ownsRow_setCell_other H.row (a := ⟨g, 1, none⟩) H.ne _, hp⟩
  have := H.st.set_ 1 (.int .i64 (p : Int))
  simpa [ldR] using this
theorem RfAt.fault {w : World} {g : Nat} {V : Value} {L : List Bool} {c : Rs} {f : Int} (H : RfAt w g V L c f) (e : Int) : RfAt (w.setCell ⟨g, 2, none⟩ (.int .i64 e)) g V L c e := by
  refine ⟨?_, ownsRow_setCell_other H.row (a := ⟨g, 2, none⟩) H.ne _, H.le⟩
  have := H.st.set_ 2 (.int .i64 e)
  simpa [ldR] using this

set_option maxRecDepth 100000 in
set_option maxHeartbeats 2000000 in
theorem rtake_ok (g : Nat) (V : Value) (L : List Bool) (hL : L.length ≤ 140737488355328) (c : Rs) (k : Nat) (K : Int) (hK : K = (k : Int)) (hk : k ≤ 64) (w : World) (H : RfAt w g V L c 0) (hp : c.p + k ≤ L.length) :
    Calls Tryd.prog 39 #[.pointer (some ⟨g, 0, none⟩), .int .i64 K] w fun e w' => e = .returned (.int .u64 ((numOf ((L.drop c.p).take k) : Nat) : Int)) ∧ RfAt w' g V L { c with p := c.p + k } 0 ∧ Frm [g] w w' := by
  subst hK
  obtain ⟨A, cap, rfl⟩ := own_shape (show w.ownsRow 0 5 1 V L.length (u8s (b2n L)) from H.row)
  have x0 : w.cell? ⟨g, 0, none⟩ = some (.slice A L.length cap) := H.st.cell 0
  have x1 : w.cell? ⟨g, 1, none⟩ = some (.int .i64 (c.p : Int)) := H.st.cell 1
  have x2 : w.cell? ⟨g, 2, none⟩ = some (.int .i64 0) := H.st.cell 2
  have f1 := H.st.frozen 1
  have hnb := fun (u : Wd w.drew) => rnumber_any (.slice A L.length cap) L c.p k hk hp hL u.w1 (own_frm (own_frm H.row ((Frm.refl [] w).drew) (by simp)) u.frm (by simp))
  have u0 : ∀ (u : Wd w.drew), u.w1.cell? ⟨g, 0, none⟩ = some (.slice A L.length cap) := fun u => ((H.quiet ((Frm.refl [] w).drew)).quiet u.frm).st.cell 0
  have u1 : ∀ (u : Wd w.drew), u.w1.cell? ⟨g, 1, none⟩ = some (.int .i64 (c.p : Int)) := fun u => ((H.quiet ((Frm.refl [] w).drew)).quiet u.frm).st.cell 1
  have hlt : ¬ (L.length : Int) - (c.p : Int) < (k : Int) := by omega
  have HH := hide H
  have Hnb := hide hnb
  clear hnb H
  go_enter Tryd.func39, Tryd.ntmps39
  go_wp2_with fail
  go_region
  go_wp2_with fail
  refine wp_region_frm (by kernel_rfl) (by kernel_rfl) ?_
  repeat (go_big_quiet_step (first | (go_at_call 52; exact calls_frm_same (Hnb.out _))))
  refine wpQuiet_nil ?_
  rintro _ ⟨u, rfl⟩
  have hR := (HH.out.quiet ((Frm.refl [] w).drew)).quiet u.frm
  have hF := ((Frm.refl [] w).drew).trans u.frm (by simp)
  have y1 : u.w1.cell? ⟨g, 1, none⟩ = some (.int .i64 (c.p : Int)) := hR.st.cell 1
  have fy1 := hR.st.frozen 1
  have hfin := hR.at_ (c.p + k) hp
  have hcast : ((c.p + k : Nat) : Int) = (c.p : Int) + (k : Int) := by omega
  rw [hcast] at hfin
  clear u0 u1 x0 x1 x2 f1
  generalize u.w1 = w5 at *
  have Hfin := hide hfin
  clear hfin hR hcast
  go_wp2_with fail
  go_ret
  exact ⟨rfl, Hfin.out, (hF.mono (by simp)).setCell (p := ⟨g, 1, none⟩) (.inl (by simp)) _⟩

set_option maxRecDepth 100000 in
set_option maxHeartbeats 2000000 in
theorem rtake_no (g : Nat) (V : Value) (L : List Bool) (hL : L.length ≤ 140737488355328) (c : Rs) (k : Nat) (K : Int) (hK : K = (k : Int)) (hk : k ≤ 64) (w : World) (H : RfAt w g V L c 0) (hp : ¬ c.p + k ≤ L.length) :
    Calls Tryd.prog 39 #[.pointer (some ⟨g, 0, none⟩), .int .i64 K] w fun e w' => e = .returned (.int .u64 0) ∧ RfAt w' g V L c 20 ∧ Frm [g] w w' := by
  subst hK
  obtain ⟨A, cap, rfl⟩ := own_shape (show w.ownsRow 0 5 1 V L.length (u8s (b2n L)) from H.row)
  have x0 : w.cell? ⟨g, 0, none⟩ = some (.slice A L.length cap) := H.st.cell 0
  have x1 : w.cell? ⟨g, 1, none⟩ = some (.int .i64 (c.p : Int)) := H.st.cell 1
  have x2 : w.cell? ⟨g, 2, none⟩ = some (.int .i64 0) := H.st.cell 2
  have f2 := H.st.frozen 2
  have hle := H.le
  have hlt : (L.length : Int) - (c.p : Int) < (k : Int) := by omega
  have hfin := (H.quiet ((Frm.refl [] w).drew)).fault 20
  have Hfin := hide hfin
  clear hfin H
  go_enter Tryd.func39, Tryd.ntmps39
  go_wp2_with fail
  go_region
  go_wp2_with fail
  go_ret
  exact ⟨rfl, Hfin.out, ((Frm.refl [g] w).drew).setCell (p := ⟨g, 2, none⟩) (.inl (by simp)) _⟩

set_option maxHeartbeats 400000 in
theorem rtake_bad (g : Nat) (V : Value) (L : List Bool) (c : Rs) (f : Int) (hf : f ≠ 0) (K : Int) (w : World) (H : RfAt w g V L c f) :
    Calls Tryd.prog 39 #[.pointer (some ⟨g, 0, none⟩), .int .i64 K] w fun e w' => e = .returned (.int .u64 0) ∧ w = w' := by
  have x2 : w.cell? ⟨g, 2, none⟩ = some (.int .i64 f) := H.st.cell 2
  have hb : (f != 0) = true := by rw [bne_iff_ne]; exact hf
  clear hf
  go_enter Tryd.func39, Tryd.ntmps39
  go_wp2_with fail
  go_ret
  exact ⟨rfl, rfl⟩

/-- What a step of the document's reader leaves: the answer and the state, or 0 and the error. -/
def RfOut (V : Value) (L : List Bool) (g : Nat) (w : World) {α : Type} (val : α → Value) (z : Value) : Except Int (α × Rs) → Ending → World → Prop
  | .ok (a, c), e, w' => e = .returned (val a) ∧ RfAt w' g V L c 0 ∧ Frm [g] w w'
  | .error x, e, w' => e = .returned z ∧ (∃ c, RfAt w' g V L c x) ∧ Frm [g] w w'

end Go.Proofs.YtdnllmibchmnnaaDoor
