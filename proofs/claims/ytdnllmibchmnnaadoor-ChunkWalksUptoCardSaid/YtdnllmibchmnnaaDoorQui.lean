/-
  A region that draws its order, whose operations read and whose calls leave all that was there as it was: one walk in the order of the text serves every order.
  Conditions: none.
-/
import Derived.Test.YtdnllmibchmnnaaDoorMem
import Derived.Deep.QuietTactic
import Derived.BigQuiet
namespace Go.Proofs.YtdnllmibchmnnaaDoor
set_option linter.unusedVariables false
set_option linter.unusedSimpArgs false
open Go.RowKit

/-- A world in which all of w is as it was. -/
structure Wd (w : World) where
  w1 : World
  frm : Frm [] w w1
instance (w : World) : Nonempty (Wd w) := ⟨⟨w, Frm.refl _ _⟩⟩

theorem wp_region_frm {P : Program} {id : Nat} {Q : Exit → Act → World → Prop} {a : Act} {w : World} {l : List Oper} (hm : P.follows .mixedOrders = true) (hB : Region.lexB .any l.toArray = true)
    (h : wpQuiet P l.toArray (fun w' => ∃ u : Wd w, w' = u.w1) (fun a' => ∀ w', (∃ u : Wd w, w' = u.w1) → Q .normal a' w') l a) : (Code.region id l.toArray true).wp P Q a w :=
  wp_region_quiet (C := fun w' => ∃ u : Wd w, w' = u.w1) hm hB ⟨⟨_, (Frm.refl [] w).drew⟩, rfl⟩ h

theorem calls_frm {P : Program} {f : FuncId} {args : Array Value} {w : World} {u : Wd w} {v : Value} (h : Calls P f args u.w1 fun e w' => e = .returned v ∧ Frm [] u.w1 w') :
    Calls P f args u.w1 fun e w'' => e = .returned v ∧ ∃ u' : Wd w, w'' = u'.w1 :=
  h.mono fun _ _ ⟨he, hf⟩ => ⟨he, ⟨_, u.frm.trans hf (by simp)⟩, rfl⟩
theorem calls_frm_same {P : Program} {f : FuncId} {args : Array Value} {w : World} {u : Wd w} {v : Value} (h : Calls P f args u.w1 fun e w' => e = .returned v ∧ u.w1 = w') :
    Calls P f args u.w1 fun e w'' => e = .returned v ∧ ∃ u' : Wd w, w'' = u'.w1 :=
  h.mono fun _ _ ⟨he, hf⟩ => ⟨he, u, hf.symm⟩

end Go.Proofs.YtdnllmibchmnnaaDoor
