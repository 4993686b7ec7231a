/-
  Plain words on reading a chunk: what each step reads, with no program in sight.
  Conditions: none.
-/
import Derived.Test.YtdnllmibchmnnaaDoorSmp
import Derived.Test.YtdnllmibchmnnaaDoorChp
namespace Go.Proofs.YtdnllmibchmnnaaDoor
set_option linter.unusedVariables false
set_option linter.unusedSimpArgs false
open Go.RowKit (wrap64)

/-- A reader's state: the place, and what is known of the samples that came. -/
structure Rs where
  p : Nat
  n : Nat
  t : Int
  v : Nat
  step : Int
  lead : Int
  tail : Int
  win : Bool

/-- k bits from the place on. -/
def tk (L : List Bool) (k : Nat) (s : Rs) : Except Int (Nat × Rs) :=
  if s.p + k ≤ L.length then .ok (numOf ((L.drop s.p).take k), { s with p := s.p + k }) else .error 20
theorem tk_ok {L : List Bool} {k : Nat} {s : Rs} (h : s.p + k ≤ L.length) : tk L k s = .ok (numOf ((L.drop s.p).take k), { s with p := s.p + k }) := if_pos h
theorem tk_no {L : List Bool} {k : Nat} {s : Rs} (h : ¬ s.p + k ≤ L.length) : tk L k s = .error 20 := if_neg h

/-- How many bits are set, at most so many, and the place behind them and the bit that ends them. -/
def marks (L : List Bool) : Nat → Nat → Option (Nat × Nat)
  | 0, p => some (0, p)
  | f + 1, p => if p < L.length then (if L.getD p false = true then (marks L f (p + 1)).map (fun x => (x.1 + 1, x.2)) else some (0, p + 1)) else none
theorem marks_yes {L : List Bool} {f p : Nat} (h : p < L.length) (hb : L.getD p false = true) : marks L (f + 1) p = (marks L f (p + 1)).map (fun x => (x.1 + 1, x.2)) := by
  rw [marks, if_pos h, if_pos hb]
theorem marks_no {L : List Bool} {f p : Nat} (h : p < L.length) (hb : L.getD p false = false) : marks L (f + 1) p = some (0, p + 1) := by
  rw [marks, if_pos h, if_neg (by rw [hb]; decide)]
theorem marks_end {L : List Bool} {f p : Nat} (h : ¬ p < L.length) : marks L (f + 1) p = none := by
  rw [marks, if_neg h]
/-- Behind m bits that are set. -/
theorem marks_from (L : List Bool) (f p m : Nat) (hm : m ≤ f) (h : ∀ j, j < m → p + j < L.length ∧ L.getD (p + j) false = true) : marks L f p = (marks L (f - m) (p + m)).map (fun x => (x.1 + m, x.2)) := by
  induction m generalizing f p with
  | zero => cases marks L f p <;> simp
  | succ m ih =>
    obtain ⟨g, rfl⟩ : ∃ g, f = g + 1 := ⟨f - 1, by omega⟩
    obtain ⟨h0, h1⟩ : p < L.length ∧ L.getD p false = true := h 0 (by omega)
    rw [marks_yes h0 h1, ih g (p + 1) (by omega) (fun j hj => by have := h (j + 1) (by omega); rwa [show p + 1 + j = p + (j + 1) from by omega])]
    rw [show g + 1 - (m + 1) = g - m from by omega, show p + 1 + m = p + (m + 1) from by omega]
    cases marks L (g - m) (p + (m + 1)) <;> simp [Nat.add_assoc, Nat.add_comm 1 m]

/-- How wide a change is behind so many marks. -/
def wdt (m : Nat) : Nat := if m = 1 then 7 else if m = 2 then 9 else if m = 3 then 12 else 64
/-- The number with a sign that w bits write. -/
def sgn (w x : Nat) : Int := if x < 2 ^ (w - 1) then (x : Int) else (x : Int) - 2 ^ w

/-- A change of steps. -/
def chgR (L : List Bool) (s : Rs) : Except Int (Int × Rs) :=
  match marks L 4 s.p with
  | none => .error 20
  | some (m, q) => if m = 0 then .ok (0, { s with p := q }) else
    match tk L (wdt m) { s with p := q } with
    | .error e => .error e
    | .ok (x, s1) => .ok (sgn (wdt m) x, s1)

/-- The window ahead of the bits that differ. -/
def winR (L : List Bool) (s : Rs) : Except Int Rs :=
  match tk L 5 s with
  | .error e => .error e
  | .ok (a, s1) =>
    match tk L 6 s1 with
    | .error e => .error e
    | .ok (k, s2) => .ok { s2 with lead := (a : Int), tail := 63 - (a : Int) - (k : Int), win := true }
/-- The bits that differ, inside the window. -/
def bodyR (L : List Bool) (s : Rs) : Except Int (Nat × Rs) :=
  if s.win = true ∧ 0 ≤ s.tail then
    match tk L (64 - s.lead - s.tail).toNat s with
    | .error e => .error e
    | .ok (x, s1) => .ok (x * 2 ^ s.tail.toNat % 18446744073709551616, s1)
  else .error 21
/-- The bits that differ. -/
def difR (L : List Bool) (s : Rs) : Except Int (Nat × Rs) :=
  match tk L 1 s with
  | .error e => .error e
  | .ok (b, s1) => if b = 0 then .ok (0, s1) else
    match tk L 1 s1 with
    | .error e => .error e
    | .ok (b2, s2) => if b2 = 1 then
        match winR L s2 with
        | .error e => .error e
        | .ok s3 => bodyR L s3
      else bodyR L s2

/-- The first sample. -/
def fstR (L : List Bool) (s : Rs) : Except Int Rs :=
  match tk L 64 s with
  | .error e => .error e
  | .ok (x, s1) => if wrap64 (x : Int) < 0 ∨ 1125899906842624 < wrap64 (x : Int) then .error 91 else
    match tk L 64 s1 with
    | .error e => .error e
    | .ok (v, s2) => .ok { s2 with n := 1, t := wrap64 (x : Int), v := v }
/-- A sample behind another, the change of the step known. -/
def tmR (L : List Bool) (c : Int) (s : Rs) : Except Int Rs :=
  let st := wrap64 (s.step + c)
  let t := wrap64 (s.t + st)
  if t < 0 ∨ 1125899906842624 < t then .error 91 else if t ≤ s.t then .error 90 else
    match difR L { s with step := st } with
    | .error e => .error e
    | .ok (x, s2) => .ok { s2 with n := s.n + 1, t := t, v := s.v ^^^ x }
/-- The next sample. -/
def smpR (L : List Bool) (s : Rs) : Except Int Rs :=
  if s.n = 0 then fstR L s else
    match chgR L s with
    | .error e => .error e
    | .ok (c, s1) => tmR L c s1

def rs0 : Rs := ⟨0, 0, 0, 0, 0, 0, 0, false⟩
/-- The state behind so many samples. -/
def rdS (L : List Bool) : Nat → Except Int Rs
  | 0 => .ok rs0
  | k + 1 => match rdS L k with
    | .error e => .error e
    | .ok s => smpR L s
/-- The samples. -/
def rdF (L : List Bool) (k : Nat) : Smp := match rdS L (k + 1) with
  | .error _ => ⟨0, 0⟩
  | .ok s => ⟨s.t, s.v⟩
/-- How many samples come ahead of the first fault, and its error. -/
def rdE (L : List Bool) : Nat → Nat × Int
  | 0 => (0, 0)
  | k + 1 => if (rdE L k).2 = 0 then (match rdS L (k + 1) with
    | .error e => (k, e)
    | .ok _ => (k + 1, 0)) else rdE L k

end Go.Proofs.YtdnllmibchmnnaaDoor
