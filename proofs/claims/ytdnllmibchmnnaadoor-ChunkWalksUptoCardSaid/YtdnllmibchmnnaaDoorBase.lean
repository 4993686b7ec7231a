/-
  What all walks of this seat share: the program, the words on memory, small facts.
-/
import Derived.Test.YtdnllmibchmnnaaDoorProg
import Derived.Test.YtdnllmibchmnnaaDoorMem
import Derived.Test.YtdnllmibchmnnaaDoorBits
import Derived.Test.YtdnllmibchmnnaaDoorStr
import Derived.WalkKit
import Derived.WalkSpells
import Derived.WalkLawsBesides
import Derived.Deep.QuietTactic
import Derived.BigQuiet
namespace Go.Proofs.YtdnllmibchmnnaaDoor
set_option linter.unusedVariables false
set_option linter.unusedSimpArgs false
open Go.RowKit

theorem ret_int {k : IntKind} {a b : Int} (h : a = b) : Ending.returned (.int k a) = .returned (.int k b) := by rw [h]

theorem u8info : (Tryd.prog.info? 5).map (fun i => (i.zero, i.size, i.bytes)) = some (some (.int .u8 0), 1, 1) := by kernel_rfl

/-- Where a slice lies that was grown out of v. -/
def Grew (w : World) (v v' : Value) : Prop := v'.ownBlock = v.ownBlock ∨ ∃ k, v'.ownBlock = some k ∧ w.heap.size ≤ k

theorem Grew.refl (w : World) (v : Value) : Grew w v v := .inl rfl
theorem Grew.trans {w wr : World} {v v' v'' : Value} (hsz : w.heap.size ≤ wr.heap.size) (h : Grew w v v') (k : Grew wr v' v'') : Grew w v v'' := by
  rcases k with k | ⟨b, hb, hbs⟩
  · rcases h with h | ⟨b, hb, hbs⟩
    · exact .inl (k.trans h)
    · exact .inr ⟨b, k.trans hb, hbs⟩
  · exact .inr ⟨b, hb, by omega⟩
theorem Grew.mem {w : World} {v v' : Value} (h : Grew w v v') : ∀ x ∈ v'.ownBlock.toList, x ∈ v.ownBlock.toList ∨ w.heap.size ≤ x := by
  intro x hx
  rcases h with h | ⟨b, hb, hbs⟩
  · left; rwa [h] at hx
  · right
    rw [hb] at hx
    have : x = b := by simpa using hx
    omega
theorem Grew.of_at {w : World} {v : Value} {r m cap : Nat} (hat : v.ownBlock = some r ∨ w.heap.size ≤ r) : Grew w v (.slice (some ⟨r, 0, none⟩) m cap) := by
  rcases hat with hat | hat
  · left; rw [hat]; rfl
  · exact .inr ⟨r, rfl, hat⟩

/-- The row of v, if it has one, is new from block B on. -/
def Fresh (B : Nat) (v : Value) : Prop := ∀ k, v.ownBlock = some k → B ≤ k

theorem Fresh.nil (B : Nat) : Fresh B (.slice none 0 0) := fun k hk => by simp [Value.ownBlock] at hk
theorem Fresh.grew {B : Nat} {w : World} {v v' : Value} (h : Fresh B v) (hg : Grew w v v') (hB : B ≤ w.heap.size) : Fresh B v' := by
  intro k hk
  rcases hg with hg | ⟨j, hj, hjs⟩
  · exact h k (hg ▸ hk)
  · have : j = k := by rw [hj] at hk; simpa using hk
    omega
theorem Fresh.foot {B g : Nat} {v : Value} (h : Fresh B v) (hg : B ≤ g) : ∀ x ∈ g :: v.ownBlock.toList, x ∈ ([] : List Nat) ∨ B ≤ x := by
  intro x hx
  right
  rcases List.mem_cons.1 hx with rfl | hx
  · exact hg
  · exact h x (by simpa using hx)
theorem Fresh.row {B : Nat} {v : Value} (h : Fresh B v) : ∀ x ∈ v.ownBlock.toList, x ∈ ([] : List Nat) ∨ B ≤ x := fun x hx => .inr (h x (by simpa using hx))

theorem not_foot {g x : Nat} {v : Value} (h1 : x ≠ g) (h2 : v.ownBlock ≠ some x) : x ∉ g :: v.ownBlock.toList := by
  intro h
  rcases List.mem_cons.1 h with h | h
  · exact h1 h
  · exact h2 (by simpa using h)
theorem not_row {x : Nat} {v : Value} (h2 : v.ownBlock ≠ some x) : x ∉ v.ownBlock.toList := fun h => h2 (by simpa using h)

end Go.Proofs.YtdnllmibchmnnaaDoor
