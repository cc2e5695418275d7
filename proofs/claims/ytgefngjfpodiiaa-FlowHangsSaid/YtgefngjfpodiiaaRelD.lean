/-
  Relations as lists of rows of bits: what the functions of package rel make, as plain Lean functions, and what a loop of each has made after k rounds.
-/
import Derived.Test.YtgefngjfpodiiaaMem
namespace Go.Proofs.Ytgefngjfpodiiaa

abbrev Rel := List U32

def clean (r : Rel) : Rel := if 32 < r.length then [] else r.map (· &&& all32 r.length)
def cleanTo (r : Rel) (k : Nat) : Rel := (r.take k).map (· &&& all32 r.length) ++ List.replicate (r.length - k) 0
theorem cleanTo_length (r : Rel) (k : Nat) (h : k ≤ r.length) : (cleanTo r k).length = r.length := by simp [cleanTo]; omega
theorem cleanTo_zero (r : Rel) : cleanTo r 0 = List.replicate r.length 0 := by simp [cleanTo]
theorem cleanTo_full (r : Rel) (h : r.length ≤ 32) : cleanTo r r.length = clean r := by
  have : ¬ 32 < r.length := by omega
  simp [cleanTo, clean, this]
theorem clean_length (r : Rel) (h : r.length ≤ 32) : (clean r).length = r.length := by
  have : ¬ 32 < r.length := by omega
  simp [clean, this]
theorem clean_long (r : Rel) (h : 32 < r.length) : clean r = [] := by simp [clean, h]
theorem clean_le (r : Rel) : (clean r).length ≤ 32 := by
  unfold clean; split <;> simp; omega
theorem clean_le' (r : Rel) : (clean r).length ≤ r.length := by
  unfold clean; split <;> simp

/-- One entry of a list is made anew in each round: what stands after k rounds. -/
def roundTo {α : Type} (f : Nat → α → α) (l : List α) (k : Nat) : List α := l.mapIdx fun i x => if i < k then f i x else x
theorem roundTo_length {α : Type} (f : Nat → α → α) (l : List α) (k : Nat) : (roundTo f l k).length = l.length := by simp [roundTo]
theorem roundTo_zero {α : Type} (f : Nat → α → α) (l : List α) : roundTo f l 0 = l := by
  apply List.ext_getElem <;> simp [roundTo]
theorem roundTo_get {α : Type} (f : Nat → α → α) (l : List α) (k i : Nat) (h : i < l.length) : (roundTo f l k)[i]'(by rw [roundTo_length]; exact h) = if i < k then f i l[i] else l[i] := by simp [roundTo]
theorem roundTo_here {α : Type} (f : Nat → α → α) (l : List α) (k : Nat) (h : k < l.length) : (roundTo f l k)[k]'(by rw [roundTo_length]; exact h) = l[k] := by simp [roundTo]
theorem roundTo_succ {α : Type} (f : Nat → α → α) (l : List α) (k : Nat) (h : k < l.length) : (roundTo f l k).set k (f k l[k]) = roundTo f l (k + 1) := by
  apply List.ext_getElem
  · simp [roundTo]
  · intro j h1 h2
    simp only [List.getElem_set, roundTo, List.getElem_mapIdx]
    split
    · subst_vars; simp
    · split <;> split <;> first | rfl | omega
theorem roundTo_full {α : Type} (f : Nat → α → α) (l : List α) : roundTo f l l.length = l.mapIdx f := by
  apply List.ext_getElem
  · simp [roundTo]
  · intro j h1 h2
    simp only [roundTo, List.length_mapIdx] at h1
    simp [roundTo, h1]

/-- Of two relations, row by row, another one. -/
def bothL (f : U32 → U32 → U32) (a b : Rel) : Rel := if (clean a).length = (clean b).length then (clean a).mapIdx (fun i x => f x ((clean b).getD i 0)) else []
theorem bothL_no (f : U32 → U32 → U32) (a b : Rel) (h : (clean a).length ≠ (clean b).length) : bothL f a b = [] := by simp [bothL, h]
theorem bothL_yes (f : U32 → U32 → U32) (a b : Rel) (h : (clean a).length = (clean b).length) : bothL f a b = (clean a).mapIdx (fun i x => f x ((clean b).getD i 0)) := by simp [bothL, h]
theorem bothL_le (f : U32 → U32 → U32) (a b : Rel) : (bothL f a b).length ≤ 32 := by
  unfold bothL; split
  · simpa using clean_le a
  · simp
def orL := bothL (· ||| ·)
def andL := bothL (· &&& ·)

def hasI (r : Rel) (i k : Int) : Bool := decide (r.length ≤ 32) && (decide (0 ≤ i ∧ i < r.length ∧ 0 ≤ k ∧ k < r.length) && (r.getD i.toNat 0).getLsbD k.toNat)
def newL (n : Int) : Rel := if 0 ≤ n ∧ n ≤ 32 then List.replicate n.toNat 0 else []
theorem newL_le (n : Int) : (newL n).length ≤ 32 := by unfold newL; split <;> simp; omega
def putL (r : Rel) (i k : Int) : Rel := if 0 ≤ i ∧ i < (clean r).length ∧ 0 ≤ k ∧ k < (clean r).length then (clean r).set i.toNat ((clean r).getD i.toNat 0 ||| bitv k.toNat) else clean r
theorem putL_le (r : Rel) (i k : Int) : (putL r i k).length ≤ 32 := by unfold putL; split <;> simpa using clean_le r
def onlyRow (f t : U32) (i : Nat) (x : U32) : U32 := (if f.getLsbD i then x else 0) &&& t
def onlyL (a : Rel) (f t : U32) : Rel := (clean a).mapIdx (onlyRow f t)
theorem onlyL_le (a : Rel) (f t : U32) : (onlyL a f t).length ≤ 32 := by simpa [onlyL] using clean_le a
def crossL (n : Int) (f t : U32) : Rel := onlyL ((newL n).mapIdx fun _ _ => all32 n.toNat) f t
theorem crossL_le (n : Int) (f t : U32) : (crossL n f t).length ≤ 32 := onlyL_le _ _ _
def sameB (a b : Rel) : Bool := decide (clean a = clean b)

/-- The pairs, row by row. -/
def pairRow (row : U32) (i n : Nat) : List (Int × Int) := ((List.range n).filter fun k : Nat => row.getLsbD k).map fun k : Nat => ((i : Int), (k : Int))
def pairsTo (a : Rel) (i : Nat) : List (Int × Int) := (List.range i).flatMap fun i => pairRow ((clean a).getD i 0) i a.length
def pairsL (a : Rel) : List (Int × Int) := pairsTo a (clean a).length
def pcells (l : List (Int × Int)) : List Value := l.flatMap fun p => [.int .i64 p.1, .int .i64 p.2]
theorem pcells_length (l : List (Int × Int)) : (pcells l).length = l.length * 2 := by
  induction l with
  | nil => rfl
  | cons p l ih => simp only [pcells, List.flatMap_cons, List.length_append, List.length_cons, List.length_nil] at *; omega
theorem pcells_append (l m : List (Int × Int)) : pcells (l ++ m) = pcells l ++ pcells m := by simp [pcells]
theorem pairRow_succ (row : U32) (i k : Nat) : pairRow row i (k + 1) = pairRow row i k ++ (if row.getLsbD k then [((i : Int), (k : Int))] else []) := by
  simp only [pairRow, List.range_succ, List.filter_append, List.map_append, List.filter_cons, List.filter_nil]
  split <;> simp
theorem pairRow_zero (row : U32) (i : Nat) : pairRow row i 0 = [] := rfl
theorem pairRow_le (row : U32) (i n : Nat) : (pairRow row i n).length ≤ n := by
  simp only [pairRow, List.length_map]
  exact Nat.le_trans (List.length_filter_le _ _) (by simp)
theorem pairsTo_succ (a : Rel) (i : Nat) : pairsTo a (i + 1) = pairsTo a i ++ pairRow ((clean a).getD i 0) i a.length := by
  simp [pairsTo, List.range_succ]
theorem pairsTo_zero (a : Rel) : pairsTo a 0 = [] := rfl
theorem pairsTo_le (a : Rel) (h : a.length ≤ 32) (i : Nat) : (pairsTo a i).length ≤ i * 32 := by
  induction i with
  | zero => simp [pairsTo]
  | succ i ih => rw [pairsTo_succ, List.length_append]; have := pairRow_le ((clean a).getD i 0) i a.length; omega
theorem pairsL_le (a : Rel) : (pairsL a).length ≤ 1024 := by
  by_cases h : a.length ≤ 32
  · have := pairsTo_le a h (clean a).length; have := clean_le a; unfold pairsL; omega
  · rw [pairsL, clean_long a (by omega)]; simp [pairsTo]

/-- Turned: pair by pair. -/
def invStep (o : Rel) (p : Int × Int) : Rel := o.set p.2.toNat (o.getD p.2.toNat 0 ||| bitv p.1.toNat)
def invTo (a : Rel) (k : Nat) : Rel := ((pairsL (clean a)).take k).foldl invStep (List.replicate (clean a).length 0)
def invL (a : Rel) : Rel := (pairsL (clean a)).foldl invStep (List.replicate (clean a).length 0)
theorem invFold_length (l : List (Int × Int)) (o : Rel) : (l.foldl invStep o).length = o.length := by
  induction l generalizing o with
  | nil => rfl
  | cons p l ih => simp [ih, invStep]
theorem invTo_length (a : Rel) (k : Nat) : (invTo a k).length = (clean a).length := by simp [invTo, invFold_length]
theorem invL_length (a : Rel) : (invL a).length = (clean a).length := by simp [invL, invFold_length]
theorem invL_le (a : Rel) : (invL a).length ≤ 32 := by rw [invL_length]; exact clean_le a
theorem invTo_succ (a : Rel) (k : Nat) (h : k < (pairsL (clean a)).length) : invTo a (k + 1) = invStep (invTo a k) (pairsL (clean a))[k] := by
  simp only [invTo, List.take_succ_eq_append_getElem h, List.foldl_append, List.foldl_cons, List.foldl_nil]
theorem invTo_full (a : Rel) : invTo a (pairsL (clean a)).length = invL a := by simp [invTo, invL]

/-- Which pairs are told. -/
theorem mem_pairsL (a : Rel) (p : Int × Int) : p ∈ pairsL a ↔ ∃ i k : Nat, p = ((i : Int), (k : Int)) ∧ i < (clean a).length ∧ k < a.length ∧ ((clean a).getD i 0).getLsbD k = true := by
  simp only [pairsL, pairsTo, pairRow, List.mem_flatMap, List.mem_range, List.mem_map, List.mem_filter]
  constructor
  · rintro ⟨i, hi, k, ⟨hk, hb⟩, rfl⟩
    exact ⟨i, k, rfl, hi, hk, hb⟩
  · rintro ⟨i, k, rfl, hi, hk, hb⟩
    exact ⟨i, hi, k, ⟨hk, hb⟩, rfl⟩

end Go.Proofs.Ytgefngjfpodiiaa
