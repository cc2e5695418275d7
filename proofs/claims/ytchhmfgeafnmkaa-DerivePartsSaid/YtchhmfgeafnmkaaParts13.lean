/-
  What is within threads and what is between, plainly: apart, and all that a relation has of unlike events.
-/
import Derived.Test.YtchhmfgeafnmkaaRelP
import Derived.Test.YtchhmfgeafnmkaaDer
namespace Go.Proofs.Ytchhmfgeafnmkaa
set_option linter.unusedVariables false

theorem Is.outer {f : Nat → Nat → Bool} {l : List Ev} {r : Rel} (h : Is l.length f r) : Is l.length (fun x y => f x y && outerTest l ((x : Int), (y : Int))) (outerL l r) := by
  have hm := h.most
  unfold outerL
  rw [if_pos h.len]
  refine ((is_new l.length hm).foldPut (outerTest l) (outerStep l) (fun _ _ => rfl) (pairsL r) fun p hp => ?_).congr fun x y hx hy => ?_
  · obtain ⟨i, k, rfl, hi, hk, _⟩ := (h.mem p).1 hp
    exact ⟨i, k, rfl, hi, hk⟩
  · rw [Bool.false_or, ← h.any_mem x y hx hy]
    generalize ((x : Int), (y : Int)) = q
    generalize pairsL r = ps
    induction ps with
    | nil => rfl
    | cons p ps ih =>
      rw [List.any_cons, List.any_cons, ih]
      by_cases hpq : p = q
      · subst hpq
        cases outerTest l p <;> simp
      · have e : (p == q) = false := by simp; exact hpq
        simp [e]
theorem outerTest_nat (l : List Ev) (x y : Nat) (hx : x < l.length) (hy : y < l.length) : outerTest l ((x : Int), (y : Int)) = ((l[x]).thread != (l[y]).thread) := outerTest_at l x y hx hy
theorem Is.within {f : Nat → Nat → Bool} {l : List Ev} {r : Rel} (h : Is l.length f r) : Is l.length (fun x y => f x y && pairTest (fun x y => x.thread == y.thread) l x y) (withinL l r) :=
  h.and (pairsE_is _ l h.most)

/-- Both, and of the first k events the pairs with themselves. -/
def bothTo (l : List Ev) (r : Rel) (k : Nat) : Rel := (List.range k).foldl (fun b i => orL b (onlyL r (bitv i) (bitv i))) (orL (withinL l r) (outerL l r))
theorem bothTo_succ (l : List Ev) (r : Rel) (k : Nat) : bothTo l r (k + 1) = orL (bothTo l r k) (onlyL r (bitv k) (bitv k)) := by simp [bothTo, List.range_succ]
theorem bothTo_le (l : List Ev) (r : Rel) (k : Nat) : (bothTo l r k).length ≤ 32 := by
  cases k with
  | zero => exact orL_le _ _
  | succ k => rw [bothTo_succ]; exact orL_le _ _
theorem bothTo_is (l : List Ev) (r : Rel) (hl : l.length ≤ 32) (hr : r.length = l.length) (k : Nat) (hk : k ≤ l.length) :
    Is l.length (fun x y => bitOf r x y && (x != y || decide (x < k))) (bothTo l r k) := by
  have h := is_self r l.length hr hl
  induction k with
  | zero =>
    refine (h.within.or h.outer).congr fun x y hx hy => ?_
    rw [outerTest_nat l x y hx hy, pairTest_at _ l x y hx hy]
    by_cases hxy : x = y
    · subst hxy; simp
    · have e : (x != y) = true := by simp; exact hxy
      rw [e]
      cases bitOf r x y <;> simp
      by_cases ht : (l[x]).thread = (l[y]).thread <;> simp [ht]
  | succ k ih =>
    rw [bothTo_succ]
    refine ((ih (by omega)).or (h.only (bitv k) (bitv k))).congr fun x y hx hy => ?_
    have hx32 : x < 32 := by omega
    have hy32 : y < 32 := by omega
    rw [bitv_get, bitv_get]
    simp only [hx32, hy32, decide_true, Bool.true_and]
    by_cases hxk : k = x
    · subst hxk
      by_cases hky : k = y
      · subst hky; simp
      · have e : (k != y) = true := by simp; exact hky
        simp [e, hky]
    · have e2 : decide (x < k + 1) = decide (x < k) := by rw [decide_eq_decide]; omega
      simp [hxk, e2]
theorem parts_diag (l : List Ev) (r : Rel) (hl : l.length ≤ 32) (hr : r.length = l.length) (k : Nat) (hk : k < l.length) : hasI (bothTo l r k) k k = false := by
  rw [(bothTo_is l r hl hr k (by omega)).has k k hk hk]; simp
theorem parts_apart (l : List Ev) (r : Rel) (hl : l.length ≤ 32) (hr : r.length = l.length) : pairsL (andL (withinL l r) (outerL l r)) = [] := by
  have h := is_self r l.length hr hl
  refine (h.within.and h.outer).pairs_nil fun x y hx hy => ?_
  rw [outerTest_nat l x y hx hy, pairTest_at _ l x y hx hy]
  cases hb : bitOf r x y
  · simp
  · by_cases ht : (l[x]).thread = (l[y]).thread <;> simp [ht]
theorem parts_all (l : List Ev) (r : Rel) (hl : l.length ≤ 32) (hr : r.length = l.length) : sameB (bothTo l r l.length) r = true := by
  refine Is.same ((bothTo_is l r hl hr l.length (Nat.le_refl _)).congr (g := bitOf r) fun x y hx hy => ?_) (is_self r l.length hr hl)
  simp [hx]
theorem parts_turned (l : List Ev) (r : Rel) (hl : l.length ≤ 32) (hr : r.length = l.length) : sameB (invL (outerL l r)) (outerL l (invL r)) = true := by
  have h := is_self r l.length hr hl
  refine Is.same h.outer.inv (h.inv.outer.congr fun x y hx hy => ?_)
  rw [outerTest_nat l x y hx hy, outerTest_nat l y x hy hx]
  congr 1
  rw [Bool.eq_iff_iff, bne_iff_ne, bne_iff_ne]; exact ⟨fun h e => h e.symm, fun h e => h e.symm⟩

end Go.Proofs.Ytchhmfgeafnmkaa
