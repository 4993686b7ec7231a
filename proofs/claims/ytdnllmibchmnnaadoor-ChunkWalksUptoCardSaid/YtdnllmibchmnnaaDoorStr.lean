/-
  Plain words on strings as lists of byte numbers, and on rows of bytes made into strings.
  Conditions: none.
-/
import Derived.Test.YtdnllmibchmnnaaDoorMem
import Derived.Test.YtdnllmibchmnnaaDoorBits
import Derived.Laws.BytesArg
namespace Go.Proofs.YtdnllmibchmnnaaDoor
set_option linter.unusedVariables false
set_option linter.unusedSimpArgs false
open Go.RowKit

/-- The string of these byte numbers. -/
def bstr (l : List Nat) : ByteArray := ⟨(l.map UInt8.ofNat).toArray⟩
/-- The byte numbers of a string. -/
def bl (s : ByteArray) : List Nat := s.data.toList.map UInt8.toNat

theorem bl_length (s : ByteArray) : (bl s).length = s.size := by
  show (s.data.toList.map _).length = s.data.size
  simp
theorem bl_lt (s : ByteArray) : ∀ x ∈ bl s, x < 256 := by
  intro x hx
  obtain ⟨c, _, rfl⟩ := List.mem_map.1 hx
  exact c.toNat_lt
theorem bstr_size (l : List Nat) : (bstr l).size = l.length := by
  show ((l.map UInt8.ofNat).toArray).size = l.length
  simp
theorem bl_bstr (l : List Nat) (h : ∀ x ∈ l, x < 256) : bl (bstr l) = l := by
  simp only [bl, bstr, List.map_map]
  conv => rhs; rw [← List.map_id l]
  refine List.map_congr_left fun x hx => ?_
  have := h x hx
  simp only [Function.comp, UInt8.toNat_ofNat', id]
  omega
theorem bstr_bl (s : ByteArray) : bstr (bl s) = s := by
  apply ByteArray.ext
  simp [bstr, bl, Function.comp_def]
theorem bl_inj {a b : ByteArray} (h : bl a = bl b) : a = b := by rw [← bstr_bl a, ← bstr_bl b, h]
theorem bl_append (a b : ByteArray) : bl (a ++ b) = bl a ++ bl b := by simp [bl, ByteArray.data_append]
theorem bstr_append (a b : List Nat) : bstr a ++ bstr b = bstr (a ++ b) := by
  apply ByteArray.ext
  simp [bstr, ByteArray.data_append]
theorem bl_get (s : ByteArray) (i : Nat) (h : i < s.size) : (bl s).getD i 0 = (s[i]'h).toNat := by
  have h' : i < s.data.toList.length := by simpa using h
  simp only [bl, List.getD_eq_getElem?_getD, List.getElem?_map, List.getElem?_eq_getElem h', Option.map_some, Option.getD_some]
  rfl
theorem str_beq_iff (a b : ByteArray) : (a.toList == b.toList) = decide (bl a = bl b) := by
  rw [Bool.eq_iff_iff, beq_iff_eq, decide_eq_true_eq, ByteArray.toList_eq, ByteArray.toList_eq]
  constructor
  · intro h; simp [bl, h]
  · intro h; rw [bl_inj h]
theorem str_beq_self (a : ByteArray) : (a.toList == a.toList) = true := by simp

def u8s (l : List Nat) : List Value := l.map fun (x : Nat) => Value.int .u8 (x : Int)
theorem u8s_set (l : List Nat) (i y : Nat) : (u8s l).set i (.int .u8 (y : Int)) = u8s (l.set i y) := by simp [u8s, List.map_set]
theorem u8s_snoc (l : List Nat) (y : Nat) : u8s l ++ [.int .u8 (y : Int)] = u8s (l ++ [y]) := by simp [u8s]
theorem u8s_length (l : List Nat) : (u8s l).length = l.length := by simp [u8s]
theorem u8s_get (l : List Nat) (i : Nat) (h : i < l.length) : (u8s l)[i]? = some (.int .u8 ((l.getD i 0 : Nat) : Int)) := by
  simp [u8s, List.getD, h]

theorem own_string {P : Program} {w : World} {src dst e : TypeId} (hs : P.underlying src = some (.slice e)) (he : P.underlying e = some (.int .u8)) (hd : P.underlying dst = some .string)
    {v : Value} {n : Nat} {l : List Nat} (h : w.ownsRow 0 e 1 v n (u8s l)) : (convert src dst v).run P w = .ok (.string (bstr l)) w := by
  rcases h.2 with ⟨rfl, rfl⟩ | ⟨g, cap, cur, rfl, _, hg, hnc, _, hcs, htake⟩
  · have hl : l = [] := by have := h.1; simpa [u8s] using this
    subst hl
    exact run_convert_bytes_nil w src e hs he 0 0 dst hd
  · have hn : l.length = n := by have := h.1; simpa [u8s] using this
    rw [run_convert_bytes_arg w src e hs he g 0 n cap (l.map fun (x : Nat) => (x : Int)) (by simp [hn]) ?_ dst hd]
    · simp [strOfNums, bstr, Function.comp_def]
    · intro i hi
      have hc := World.ownsRow.cellAt h i (by omega)
      rw [Nat.zero_add, hc, u8s_get l i (by omega)]
      simp [List.getD, List.getElem?_map, show i < l.length by omega]

/-- A byte of a string, at an index that lies in it. -/
theorem idx_str {P : Program} {t : TypeId} (ht : P.underlying t = some .string) (s : ByteArray) (k : Nat) (i : Int) (hi : i = k) (hk : k < s.size) (y : Nat) (hy : y = (bl s).getD k 0) :
    ∀ W, (Instr.index t (.string s) (.int .i64 i)).run P W = .ok (.int .u8 (y : Int)) W := by
  intro W
  subst hi
  rw [run_index_string (h := ht), hy, bl_get s _ hk]
  simp [hk]

end Go.Proofs.YtdnllmibchmnnaaDoor
