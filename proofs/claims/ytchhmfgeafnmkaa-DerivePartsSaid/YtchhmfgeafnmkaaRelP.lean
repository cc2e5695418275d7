/-
  Plain laws of relations: which pairs each has. 'Is n f r': of n things, 32 at most, r has just the pairs of which f is true.
-/
import Derived.Test.YtchhmfgeafnmkaaEv
namespace Go.Proofs.Ytchhmfgeafnmkaa
set_option linter.unusedVariables false

def bitOf (r : Rel) (i k : Nat) : Bool := (r.getD i 0).getLsbD k
structure Is (n : Nat) (f : Nat → Nat → Bool) (r : Rel) : Prop where
  len : r.length = n
  most : n ≤ 32
  bit : ∀ i k, i < n → k < n → bitOf r i k = f i k

theorem Is.congr {n : Nat} {f g : Nat → Nat → Bool} {r : Rel} (h : Is n f r) (e : ∀ i k, i < n → k < n → f i k = g i k) : Is n g r := ⟨h.len, h.most, fun i k hi hk => (h.bit i k hi hk).trans (e i k hi hk)⟩
theorem is_self (r : Rel) (n : Nat) (h : r.length = n) (hn : n ≤ 32) : Is n (bitOf r) r := ⟨h, hn, fun _ _ _ _ => rfl⟩
theorem bitOf_get (r : Rel) (i k : Nat) (h : i < r.length) : bitOf r i k = (r[i]).getLsbD k := by simp [bitOf, h]
theorem clean_bit (r : Rel) (i k : Nat) (hl : r.length ≤ 32) (hi : i < r.length) : bitOf (clean r) i k = (decide (k < r.length) && bitOf r i k) := by
  have hc : clean r = r.map (· &&& all32 r.length) := by
    unfold clean; rw [if_neg (by omega)]
  rw [hc, bitOf_get _ _ _ (by simpa using hi), bitOf_get _ _ _ hi]
  simp only [List.getElem_map, BitVec.getLsbD_and, all32_get]
  by_cases hk : k < r.length
  · have : k < 32 := by omega
    simp [hk, this]
  · simp [hk]
theorem Is.clean_len {n : Nat} {f : Nat → Nat → Bool} {r : Rel} (h : Is n f r) : (clean r).length = n := by rw [clean_length r (by rw [h.len]; exact h.most), h.len]
theorem Is.clean {n : Nat} {f : Nat → Nat → Bool} {r : Rel} (h : Is n f r) : Is n f (Go.Proofs.Ytchhmfgeafnmkaa.clean r) :=
  ⟨h.clean_len, h.most, fun i k hi hk => by
    have hm := h.most
    rw [clean_bit r i k (by rw [h.len]; exact hm) (by rw [h.len]; exact hi), h.len, h.bit i k hi hk]; simp [hk]⟩
theorem eq_of_bits {r s : Rel} (hl : r.length = s.length) (h : ∀ i k, i < r.length → k < 32 → bitOf r i k = bitOf s i k) : r = s := by
  apply List.ext_getElem hl
  intro i h1 h2
  apply BitVec.eq_of_getLsbD_eq
  intro k hk
  have := h i k h1 hk
  rwa [bitOf_get _ _ _ h1, bitOf_get _ _ _ h2] at this
/-- Two relations of the same pairs are the same, once cleaned. -/
theorem Is.same {n : Nat} {f : Nat → Nat → Bool} {r s : Rel} (h : Is n f r) (k : Is n f s) : sameB r s = true := by
  have hm := h.most
  unfold sameB
  apply decide_eq_true
  apply eq_of_bits (by rw [h.clean_len, k.clean_len])
  intro i j hi hj
  rw [h.clean_len] at hi
  rw [clean_bit r i j (by rw [h.len]; exact hm) (by rw [h.len]; exact hi), clean_bit s i j (by rw [k.len]; exact hm) (by rw [k.len]; exact hi), h.len, k.len]
  by_cases hjn : j < n
  · simp [hjn, h.bit i j hi hjn, k.bit i j hi hjn]
  · simp [hjn]
theorem Is.of_same {n : Nat} {f g : Nat → Nat → Bool} {r s : Rel} (h : Is n f r) (k : Is n g s) (e : sameB r s = true) : ∀ i j, i < n → j < n → f i j = g i j := by
  intro i j hi hj
  have e' : Go.Proofs.Ytchhmfgeafnmkaa.clean r = Go.Proofs.Ytchhmfgeafnmkaa.clean s := by simpa [sameB] using e
  rw [← h.clean.bit i j hi hj, ← k.clean.bit i j hi hj, e']
theorem Is.has {n : Nat} {f : Nat → Nat → Bool} {r : Rel} (h : Is n f r) (i k : Nat) (hi : i < n) (hk : k < n) : hasI r i k = f i k := by
  have hm := h.most
  have hl := h.len
  unfold hasI
  have e : decide ((0 : Int) ≤ i ∧ (i : Int) < r.length ∧ (0 : Int) ≤ k ∧ (k : Int) < r.length) = true := by simp; omega
  have e2 : decide (r.length ≤ 32) = true := by simp; omega
  rw [e, e2, Bool.true_and, Bool.true_and]
  exact h.bit i k hi hk
theorem hasI_true {r : Rel} {i k : Int} (h : hasI r i k = true) : 0 ≤ i ∧ i < r.length ∧ 0 ≤ k ∧ k < r.length := by
  unfold hasI at h
  simp only [Bool.and_eq_true, decide_eq_true_eq] at h
  exact h.2.1
theorem Is.both {n : Nat} {f g : Nat → Nat → Bool} {a b : Rel} (op : U32 → U32 → U32) (opb : Bool → Bool → Bool) (hop : ∀ x y k, k < 32 → (op x y).getLsbD k = opb (x.getLsbD k) (y.getLsbD k))
    (h : Is n f a) (k : Is n g b) : Is n (fun i j => opb (f i j) (g i j)) (bothL op a b) := by
  have hm := h.most
  have e := bothL_yes op a b (by rw [h.clean_len, k.clean_len])
  have hl : (bothL op a b).length = n := by rw [e]; simp [h.clean_len]
  refine ⟨hl, hm, fun i j hi hj => ?_⟩
  have ha := h.clean.bit i j hi hj
  have hb := k.clean.bit i j hi hj
  rw [bitOf_get _ _ _ (by rw [h.clean_len]; exact hi)] at ha
  rw [bitOf_get _ _ _ (by rw [hl]; exact hi)]
  simp only [e, List.getElem_mapIdx]
  rw [hop _ _ _ (by omega), ha]
  unfold bitOf at hb
  rw [hb]
theorem Is.or {n : Nat} {f g : Nat → Nat → Bool} {a b : Rel} (h : Is n f a) (k : Is n g b) : Is n (fun i j => f i j || g i j) (orL a b) := h.both _ _ (fun x y k _ => BitVec.getLsbD_or) k
theorem Is.and {n : Nat} {f g : Nat → Nat → Bool} {a b : Rel} (h : Is n f a) (k : Is n g b) : Is n (fun i j => f i j && g i j) (andL a b) := h.both _ _ (fun x y k _ => BitVec.getLsbD_and) k
theorem Is.only {n : Nat} {f : Nat → Nat → Bool} {a : Rel} (h : Is n f a) (x y : U32) : Is n (fun i j => f i j && (x.getLsbD i && y.getLsbD j)) (onlyL a x y) := by
  have hl : (onlyL a x y).length = n := by simp [onlyL, h.clean_len]
  refine ⟨hl, h.most, fun i j hi hj => ?_⟩
  have ha := h.clean.bit i j hi hj
  rw [bitOf_get _ _ _ (by rw [h.clean_len]; exact hi)] at ha
  rw [bitOf_get _ _ _ (by rw [hl]; exact hi)]
  simp only [onlyL, List.getElem_mapIdx, onlyRow, BitVec.getLsbD_and]
  cases hx : x.getLsbD i
  · simp
  · simp [ha]
theorem is_new (n : Nat) (h : n ≤ 32) : Is n (fun _ _ => false) (newL n) := by
  have e : newL n = List.replicate n 0 := by unfold newL; rw [if_pos (by omega)]; simp
  refine ⟨by rw [e]; simp, h, fun i j hi hj => ?_⟩
  rw [bitOf_get _ _ _ (by rw [e]; simpa using hi)]
  simp [e]
theorem Is.put {n : Nat} {f : Nat → Nat → Bool} {r : Rel} (h : Is n f r) (i k : Nat) (hi : i < n) (hk : k < n) : Is n (fun x y => f x y || (x == i && y == k)) (putL r i k) := by
  have hm := h.most
  have hcl := h.clean_len
  have e : putL r i k = (Go.Proofs.Ytchhmfgeafnmkaa.clean r).set i ((Go.Proofs.Ytchhmfgeafnmkaa.clean r).getD i 0 ||| bitv k) := by
    unfold putL; rw [if_pos (by omega)]; rfl
  have hl : (putL r i k).length = n := by rw [e, List.length_set, hcl]
  refine ⟨hl, hm, fun x y hx hy => ?_⟩
  have hb := h.clean.bit x y hx hy
  rw [bitOf_get _ _ _ (by rw [hcl]; exact hx)] at hb
  rw [bitOf_get _ _ _ (by rw [hl]; exact hx)]
  simp only [e, List.getElem_set]
  by_cases hix : i = x
  · subst hix
    rw [if_pos rfl, BitVec.getLsbD_or, bitv_get]
    have : (Go.Proofs.Ytchhmfgeafnmkaa.clean r).getD i 0 = (Go.Proofs.Ytchhmfgeafnmkaa.clean r)[i]'(by rw [hcl]; exact hx) := by simp [hcl, hx]
    rw [this, hb]
    have hy32 : y < 32 := by omega
    simp only [hy32, decide_true, Bool.true_and, beq_self_eq_true]
    congr 1
    rw [Bool.eq_iff_iff, decide_eq_true_iff, beq_iff_eq]; exact eq_comm
  · rw [if_neg hix, hb]
    have : (x == i) = false := by simp; omega
    simp [this]
theorem Is.put_out {n : Nat} {f : Nat → Nat → Bool} {r : Rel} (h : Is n f r) (i k : Int) (ho : ¬ (0 ≤ i ∧ i < n ∧ 0 ≤ k ∧ k < n)) : Is n f (putL r i k) := by
  unfold putL; rw [if_neg (by rw [h.clean_len]; exact ho)]; exact h.clean

/-- The pairs that are told. -/
theorem Is.mem {n : Nat} {f : Nat → Nat → Bool} {r : Rel} (h : Is n f r) (p : Int × Int) : p ∈ pairsL r ↔ ∃ i k : Nat, p = ((i : Int), (k : Int)) ∧ i < n ∧ k < n ∧ f i k = true := by
  rw [mem_pairsL, h.clean_len, h.len]
  constructor
  · rintro ⟨i, k, rfl, hi, hk, hb⟩
    exact ⟨i, k, rfl, hi, hk, by rw [← h.clean.bit i k hi hk]; exact hb⟩
  · rintro ⟨i, k, rfl, hi, hk, hb⟩
    exact ⟨i, k, rfl, hi, hk, by have := h.clean.bit i k hi hk; rw [hb] at this; exact this⟩
theorem Is.pairs_nil {n : Nat} {f : Nat → Nat → Bool} {r : Rel} (h : Is n f r) (hf : ∀ i k, i < n → k < n → f i k = false) : pairsL r = [] := by
  rw [List.eq_nil_iff_forall_not_mem]
  intro p hp
  obtain ⟨i, k, _, hi, hk, hb⟩ := (h.mem p).1 hp
  rw [hf i k hi hk] at hb; cases hb
theorem Is.pairs_none {n : Nat} {f : Nat → Nat → Bool} {r : Rel} (h : Is n f r) (hf : pairsL r = []) : ∀ i k, i < n → k < n → f i k = false := by
  intro i k hi hk
  cases hb : f i k with
  | false => rfl
  | true =>
    have : ((i : Int), (k : Int)) ∈ pairsL r := (h.mem _).2 ⟨i, k, rfl, hi, hk, hb⟩
    rw [hf] at this; cases this

/-- Pairs put one by one out of a list. -/
theorem Is.foldPut {n : Nat} (t : Int × Int → Bool) (step : Rel → Int × Int → Rel) (hstep : ∀ o p, step o p = if t p = true then putL o p.1 p.2 else o) (l : List (Int × Int)) (hl : ∀ p ∈ l, ∃ i k : Nat, p = ((i : Int), (k : Int)) ∧ i < n ∧ k < n) :
    ∀ {f : Nat → Nat → Bool} {o : Rel}, Is n f o → Is n (fun x y => f x y || l.any fun p => t p && (p == ((x : Int), (y : Int)))) (l.foldl step o) := by
  induction l with
  | nil => intro f o h; exact h.congr fun _ _ _ _ => by simp
  | cons p l ih =>
    intro f o h
    obtain ⟨i, k, hp, hi, hk⟩ := hl p (by simp)
    rw [List.foldl_cons, hstep]
    by_cases ht : t p = true
    · rw [if_pos ht]
      subst hp
      refine (ih (fun q hq => hl q (by simp [hq])) (h.put i k hi hk)).congr fun x y hx hy => ?_
      simp only [List.any_cons, ht, Bool.true_and]
      have e : ((x == i) && (y == k)) = ((((i : Int), (k : Int)) : Int × Int) == ((x : Int), (y : Int))) := by
        rw [Bool.eq_iff_iff]; simp; omega
      rw [e, Bool.or_assoc]
    · rw [if_neg ht]
      refine (ih (fun q hq => hl q (by simp [hq])) h).congr fun x y hx hy => ?_
      simp [List.any_cons, ht]


theorem pairRowE_is (of : Ev → Ev → Bool) (l : List Ev) (i : Nat) (hi : i < l.length) {f : Nat → Nat → Bool} {r : Rel} (h : Is l.length f r) (k : Nat) (hk : k ≤ l.length) :
    Is l.length (fun x y => f x y || ((x == i) && (decide (y < k) && pairTest of l i y))) (pairRowE of l r i k) := by
  induction k with
  | zero => exact h.congr fun _ _ _ _ => by simp
  | succ k ih =>
    rw [pairRowE_succ]
    have g := ih (by omega)
    unfold pairStep
    by_cases ht : pairTest of l i k = true
    · rw [if_pos ht]
      refine (g.put i k hi (by omega)).congr fun x y hx hy => ?_
      by_cases hxi : x = i
      · subst hxi
        by_cases hyk : y = k
        · subst hyk; simp [ht]
        · have e1 : (y == k) = false := by simp; exact hyk
          have e2 : decide (y < k + 1) = decide (y < k) := by rw [decide_eq_decide]; omega
          simp [e1, e2]
      · have e1 : (x == i) = false := by simp; exact hxi
        simp [e1]
    · rw [if_neg ht]
      refine g.congr fun x y hx hy => ?_
      by_cases hyk : y = k
      · subst hyk; simp [ht]
      · have e2 : decide (y < k + 1) = decide (y < k) := by rw [decide_eq_decide]; omega
        rw [e2]
theorem pairToE_is (of : Ev → Ev → Bool) (l : List Ev) (hl : l.length ≤ 32) (i : Nat) (hi : i ≤ l.length) : Is l.length (fun x y => decide (x < i) && pairTest of l x y) (pairToE of l i) := by
  induction i with
  | zero => exact (is_new l.length hl).congr fun _ _ _ _ => by simp
  | succ i ih =>
    rw [pairToE_succ]
    refine (pairRowE_is of l i (by omega) (ih (by omega)) l.length (Nat.le_refl _)).congr fun x y hx hy => ?_
    by_cases hxi : x = i
    · subst hxi; simp [hy]
    · have e1 : (x == i) = false := by simp; exact hxi
      have e2 : decide (x < i + 1) = decide (x < i) := by rw [decide_eq_decide]; omega
      simp [e1, e2]
theorem pairsE_is (of : Ev → Ev → Bool) (l : List Ev) (hl : l.length ≤ 32) : Is l.length (pairTest of l) (pairsE of l) :=
  (pairToE_is of l hl l.length (Nat.le_refl _)).congr fun x y hx _ => by simp [hx]
theorem pairTest_at (of : Ev → Ev → Bool) (l : List Ev) (i k : Nat) (hi : i < l.length) (hk : k < l.length) : pairTest of l i k = (i != k && of l[i] l[k]) := by
  simp [pairTest, hi, hk]

theorem Is.setBit {n : Nat} {f : Nat → Nat → Bool} {r : Rel} (h : Is n f r) (i k : Nat) (hi : i < n) (hk : k < n) : Is n (fun x y => f x y || (x == k && y == i)) (invStep r ((i : Int), (k : Int))) := by
  have hm := h.most
  have hl : (invStep r ((i : Int), (k : Int))).length = n := by simp [invStep, h.len]
  refine ⟨hl, hm, fun x y hx hy => ?_⟩
  have hb := h.bit x y hx hy
  rw [bitOf_get _ _ _ (by rw [h.len]; exact hx)] at hb
  rw [bitOf_get _ _ _ (by rw [hl]; exact hx)]
  simp only [invStep, List.getElem_set, Int.toNat_natCast]
  by_cases hix : k = x
  · subst hix
    rw [if_pos rfl, BitVec.getLsbD_or, bitv_get]
    have : r.getD k 0 = r[k]'(by rw [h.len]; exact hx) := by simp [h.len, hx]
    rw [this, hb]
    have hy32 : y < 32 := by omega
    simp only [hy32, decide_true, Bool.true_and, beq_self_eq_true]
    congr 1
    rw [Bool.eq_iff_iff, decide_eq_true_iff, beq_iff_eq]; exact eq_comm
  · rw [if_neg hix, hb]
    have : (x == k) = false := by simp; omega
    simp [this]
theorem Is.foldInv {n : Nat} (l : List (Int × Int)) (hl : ∀ p ∈ l, ∃ i k : Nat, p = ((i : Int), (k : Int)) ∧ i < n ∧ k < n) :
    ∀ {f : Nat → Nat → Bool} {o : Rel}, Is n f o → Is n (fun x y => f x y || l.any fun p => p == ((y : Int), (x : Int))) (l.foldl invStep o) := by
  induction l with
  | nil => intro f o h; exact h.congr fun _ _ _ _ => by simp
  | cons p l ih =>
    intro f o h
    obtain ⟨i, k, hp, hi, hk⟩ := hl p (by simp)
    rw [List.foldl_cons]
    subst hp
    refine (ih (fun q hq => hl q (by simp [hq])) (h.setBit i k hi hk)).congr fun x y hx hy => ?_
    simp only [List.any_cons]
    have e : ((x == k) && (y == i)) = ((((i : Int), (k : Int)) : Int × Int) == ((y : Int), (x : Int))) := by
      rw [Bool.eq_iff_iff]; simp; omega
    rw [e, Bool.or_assoc]
theorem Is.any_mem {n : Nat} {f : Nat → Nat → Bool} {r : Rel} (h : Is n f r) (x y : Nat) (hx : x < n) (hy : y < n) : ((pairsL r).any fun p => p == ((x : Int), (y : Int))) = f x y := by
  rw [Bool.eq_iff_iff, List.any_eq_true]
  constructor
  · rintro ⟨p, hp, he⟩
    obtain ⟨i, k, rfl, _, _, hb⟩ := (h.mem p).1 hp
    have h2 : (i : Int) = x ∧ (k : Int) = y := by simpa using he
    have : i = x ∧ k = y := by omega
    obtain ⟨rfl, rfl⟩ := this
    exact hb
  · intro hb
    exact ⟨_, (h.mem _).2 ⟨x, y, rfl, hx, hy, hb⟩, by simp⟩
theorem Is.inv {n : Nat} {f : Nat → Nat → Bool} {r : Rel} (h : Is n f r) : Is n (fun x y => f y x) (invL r) := by
  have h0 : Is n (fun _ _ => false) (List.replicate (Go.Proofs.Ytchhmfgeafnmkaa.clean r).length 0) := by
    rw [h.clean_len]
    refine ⟨by simp, h.most, fun i j hi hj => ?_⟩
    rw [bitOf_get _ _ _ (by simpa using hi)]; simp
  refine (h0.foldInv (pairsL (Go.Proofs.Ytchhmfgeafnmkaa.clean r)) fun p hp => ?_).congr fun x y hx hy => ?_
  · obtain ⟨i, k, rfl, hi, hk, _⟩ := (h.clean.mem p).1 hp
    exact ⟨i, k, rfl, hi, hk⟩
  · rw [Bool.false_or, h.clean.any_mem y x hy hx]

end Go.Proofs.Ytchhmfgeafnmkaa
