/-
  Events as records, and lists of them as cells.
-/
import Derived.Test.YtgefngjfpodiiaaRelD
namespace Go.Proofs.Ytgefngjfpodiiaa
open Go.RowKit

structure Ev where
  thread : Int
  kind : Int
  loc : Int
  val : Int
  acq : Bool
  rel : Bool
  excl : Bool
  deriving DecidableEq

def Ev.arr (e : Ev) : Array Value := #[.int .i64 e.thread, .int .i64 e.kind, .int .i64 e.loc, .int .i64 e.val, .bool e.acq, .bool e.rel, .bool e.excl]
def ecells (l : List Ev) : List Value := l.flatMap fun e => e.arr.toList
theorem ecells_length (l : List Ev) : (ecells l).length = l.length * 7 := by
  induction l with
  | nil => rfl
  | cons p l ih =>
    have : (ecells (p :: l)).length = 7 + (ecells l).length := by simp [ecells, Ev.arr]; omega
    rw [this, ih, List.length_cons]; omega
theorem ecells_append (l m : List Ev) : ecells (l ++ m) = ecells l ++ ecells m := by simp [ecells]
theorem ecells_get (l : List Ev) (i : Nat) (h : i < l.length) (j : Nat) (hj : j < 7) : (ecells l)[i * 7 + j]? = (l[i]).arr[j]? := by
  induction l generalizing i with
  | nil => simp at h
  | cons p l ih =>
    have e : ecells (p :: l) = p.arr.toList ++ ecells l := by simp [ecells]
    have hp : p.arr.toList.length = 7 := rfl
    rw [e]
    cases i with
    | zero =>
      rw [List.getElem?_append_left (by rw [hp]; omega)]
      simp
    | succ i =>
      rw [List.getElem?_append_right (by rw [hp]; omega), hp, show (i + 1) * 7 + j - 7 = i * 7 + j from by omega, ih i (by simpa using h)]
      simp
theorem ecells_one (l : List Ev) : ∀ u ∈ ecells l, u.oneCell' = true := by
  intro u hu
  simp only [ecells, List.mem_flatMap] at hu
  obtain ⟨p, _, h⟩ := hu
  simp only [Ev.arr, List.mem_cons, List.not_mem_nil, or_false] at h
  rcases h with h | h | h | h | h | h | h <;> subst h <;> rfl

/-- An event's seven cells, at its place. -/
structure EvAt (w : World) (b o : Nat) (e : Ev) : Prop where
  c0 : w.cell? ⟨b, o, none⟩ = some (.int .i64 e.thread)
  c1 : w.cell? ⟨b, o + 1, none⟩ = some (.int .i64 e.kind)
  c2 : w.cell? ⟨b, o + 2, none⟩ = some (.int .i64 e.loc)
  c3 : w.cell? ⟨b, o + 3, none⟩ = some (.int .i64 e.val)
  c4 : w.cell? ⟨b, o + 4, none⟩ = some (.bool e.acq)
  c5 : w.cell? ⟨b, o + 5, none⟩ = some (.bool e.rel)
  c6 : w.cell? ⟨b, o + 6, none⟩ = some (.bool e.excl)

theorem Rd.at_ev {w : World} {B : Nat} {A : Option Addr} {l : List Ev} (h : Rd w B A (ecells l)) {i : Nat} (hi : i < l.length) :
    ∃ b off, A = some ⟨b, off, none⟩ ∧ b < B ∧ ∀ j (hj : j < l.length), EvAt w b (off + j * 7) l[j] := by
  rcases h with h | ⟨b, off, hA, hB, hc⟩
  · have : (ecells l).length = 0 := by rw [h]; rfl
    rw [ecells_length] at this; omega
  · refine ⟨b, off, hA, hB, fun j hj => ?_⟩
    have g := fun (k : Nat) (hk : k < 7) (v : Value) (hv : (l[j]).arr[k]? = some v) => hc (j * 7 + k) v ((ecells_get l j hj k hk).trans hv)
    refine ⟨?_, ?_, ?_, ?_, ?_, ?_, ?_⟩
    · exact g 0 (by omega) _ rfl
    · exact g 1 (by omega) _ rfl
    · exact g 2 (by omega) _ rfl
    · exact g 3 (by omega) _ rfl
    · exact g 4 (by omega) _ rfl
    · exact g 5 (by omega) _ rfl
    · exact g 6 (by omega) _ rfl

/-- The pairs of unlike events of which something is true, put one by one. -/
def pairTest (of : Ev → Ev → Bool) (l : List Ev) (i k : Nat) : Bool := i != k && ((l[i]?).bind fun x => (l[k]?).map fun y => of x y).getD false
def pairStep (of : Ev → Ev → Bool) (l : List Ev) (i : Nat) (r : Rel) (k : Nat) : Rel :=
  if pairTest of l i k = true then putL r i k else r
def pairRowE (of : Ev → Ev → Bool) (l : List Ev) (r : Rel) (i k : Nat) : Rel := (List.range k).foldl (pairStep of l i) r
def pairToE (of : Ev → Ev → Bool) (l : List Ev) (i : Nat) : Rel := (List.range i).foldl (fun r i => pairRowE of l r i l.length) (newL l.length)
def pairsE (of : Ev → Ev → Bool) (l : List Ev) : Rel := pairToE of l l.length
theorem pairStep_le (of : Ev → Ev → Bool) (l : List Ev) (i : Nat) (r : Rel) (k : Nat) (h : r.length ≤ 32) : (pairStep of l i r k).length ≤ 32 := by
  unfold pairStep; split
  · exact putL_le _ _ _
  · exact h
theorem pairRowE_le (of : Ev → Ev → Bool) (l : List Ev) (r : Rel) (i k : Nat) (h : r.length ≤ 32) : (pairRowE of l r i k).length ≤ 32 := by
  induction k with
  | zero => simpa [pairRowE]
  | succ k ih => simp only [pairRowE, List.range_succ, List.foldl_append, List.foldl_cons, List.foldl_nil] at *; exact pairStep_le _ _ _ _ _ ih
theorem pairToE_le (of : Ev → Ev → Bool) (l : List Ev) (i : Nat) : (pairToE of l i).length ≤ 32 := by
  induction i with
  | zero => simpa [pairToE] using newL_le _
  | succ i ih => simp only [pairToE, List.range_succ, List.foldl_append, List.foldl_cons, List.foldl_nil] at *; exact pairRowE_le _ _ _ _ _ ih
theorem pairRowE_zero (of : Ev → Ev → Bool) (l : List Ev) (r : Rel) (i : Nat) : pairRowE of l r i 0 = r := rfl
theorem pairToE_zero (of : Ev → Ev → Bool) (l : List Ev) : pairToE of l 0 = newL l.length := rfl
theorem pairRowE_succ (of : Ev → Ev → Bool) (l : List Ev) (r : Rel) (i k : Nat) : pairRowE of l r i (k + 1) = pairStep of l i (pairRowE of l r i k) k := by
  simp [pairRowE, List.range_succ]
theorem pairToE_succ (of : Ev → Ev → Bool) (l : List Ev) (i : Nat) : pairToE of l (i + 1) = pairRowE of l (pairToE of l i) i l.length := by
  simp [pairToE, List.range_succ]
theorem pairStep_put (of : Ev → Ev → Bool) (l : List Ev) (i : Nat) (r : Rel) (k : Nat) (hi : i < l.length) (hk : k < l.length) (h1 : i ≠ k) (h2 : of l[i] l[k] = true) : pairStep of l i r k = putL r i k := by
  simp [pairStep, pairTest, hi, hk, h1, h2]
theorem pairStep_not (of : Ev → Ev → Bool) (l : List Ev) (i : Nat) (r : Rel) (k : Nat) (hi : i < l.length) (hk : k < l.length) (h : i = k ∨ of l[i] l[k] = false) : pairStep of l i r k = r := by
  unfold pairStep
  rw [if_neg]
  simp only [pairTest, hi, hk, List.getElem?_eq_getElem, Option.bind_some, Option.map_some, Option.getD_some, Bool.and_eq_true, bne_iff_ne, not_and, Bool.not_eq_true]
  rcases h with h | h
  · intro h'; exact absurd h h'
  · intro _; exact h

/-- Those events of which something is true, as bits. -/
def maskTo (of : Ev → Bool) (l : List Ev) (k : Nat) : U32 := (List.range k).foldl (fun m i => match l[i]? with | some x => if of x then m ||| bitv i else m | none => m) 0
def maskE (of : Ev → Bool) (l : List Ev) : U32 := maskTo of l l.length
theorem maskTo_succ (of : Ev → Bool) (l : List Ev) (k : Nat) (h : k < l.length) : maskTo of l (k + 1) = if of l[k] then maskTo of l k ||| bitv k else maskTo of l k := by
  simp [maskTo, List.range_succ, h]

end Go.Proofs.Ytgefngjfpodiiaa
