/-
  Whether an instruction may be, plainly: what mayB says, field by field.
-/
import Derived.Test.YtgefngjfpodiiaaFlowM
namespace Go.Proofs.Ytgefngjfpodiiaa
open Go.RowKit
set_option linter.unusedVariables false

/-- The fields of an instruction, as the document tells them. -/
def hasD' (op : Int) : Bool := (decide (1 ≤ op) && decide (op ≤ 4)) || kindOf op == 1 || op == 10
def hasA' (op : Int) : Bool := (decide (2 ≤ op) && decide (op ≤ 10)) || op == 13 || op == 14
def hasB' (op : Int) : Bool := (decide (2 ≤ op) && decide (op ≤ 4)) || kindOf op == 2
def regB (has : Bool) (n least : Int) : Bool := if has then decide (least ≤ n) && decide (n ≤ 3) else n == 0
def locB (x : In) (locs : Int) : Bool := if 0 < kindOf x.op then decide (0 ≤ x.loc) && decide (x.loc < locs) else x.loc == 0
def immB' (x : In) (behind : Int) : Bool :=
  if x.op = 1 then decide (-1000 ≤ x.imm) && decide (x.imm ≤ 1000) else if x.op = 11 then decide (0 ≤ x.imm) && decide (x.imm ≤ 2) else if x.op = 13 ∨ x.op = 14 then decide (0 ≤ x.imm) && decide (x.imm ≤ behind) else x.imm == 0
def refMay (x : In) (behind locs : Int) : Bool :=
  decide (1 ≤ x.op) && decide (x.op ≤ 14) && locB x locs && regB (hasD' x.op) x.d 0 && regB (hasA' x.op) x.a (if 0 < kindOf x.op then -1 else 0) && regB (hasB' x.op) x.b 0 && immB' x behind

theorem bool_dec {a b : Bool} (h : a = true ↔ b = true) : a = b := by cases a <;> cases b <;> simp_all
theorem mayTo4 (x : In) (locs : Int) : mayTo x locs 4 = (fieldOk x locs 0 && fieldOk x locs 1 && fieldOk x locs 2 && fieldOk x locs 3) := by
  simp [mayTo, List.range_succ, Bool.and_assoc]
theorem may_row (op : Int) (h : 1 ≤ op ∧ op ≤ 14) : op = 1 ∨ op = 2 ∨ op = 3 ∨ op = 4 ∨ op = 5 ∨ op = 6 ∨ op = 7 ∨ op = 8 ∨ op = 9 ∨ op = 10 ∨ op = 11 ∨ op = 12 ∨ op = 13 ∨ op = 14 := by omega

set_option maxHeartbeats 1000000 in
theorem mayB_ref (x : In) (behind locs : Int) (hl : 1 ≤ locs) : mayB x behind locs = refMay x behind locs := by
  have hmax : max locs 0 - 1 = locs - 1 := by omega
  by_cases h : 1 ≤ x.op ∧ x.op ≤ 14
  · obtain ⟨op, d, a, b, loc, imm⟩ := x
    dsimp only at h
    apply bool_dec
    rcases may_row op h with rfl | rfl | rfl | rfl | rfl | rfl | rfl | rfl | rfl | rfl | rfl | rfl | rfl | rfl
    all_goals
      simp [mayB, mayTo4, fieldOk, hasF, rowNo, flN, fieldN, fieldLeast, fieldTop, hmax, betweenB, immB, refMay, locB, regB, hasD', hasA', hasB', immB', kindOf, Nat.testBit, Nat.shiftRight_eq_div_pow] <;> omega
  · have h0 : rowNo x.op = 0 := by
      unfold rowNo
      split
      · have : x.op = 0 := by omega
        rw [this]; rfl
      · rfl
    have e1 : mayB x behind locs = false := by
      unfold mayB hasF
      rw [h0]
      have : (decide (1 ≤ x.op) && decide (x.op < 15)) = false := by
        rw [Bool.and_eq_false_iff, decide_eq_false_iff_not, decide_eq_false_iff_not]; omega
      simp [flN, this]
    have e2 : refMay x behind locs = false := by
      have : (decide (1 ≤ x.op) && decide (x.op ≤ 14)) = false := by
        rw [Bool.and_eq_false_iff, decide_eq_false_iff_not, decide_eq_false_iff_not]; omega
      unfold refMay
      rw [this]; rfl
    rw [e1, e2]

theorem inOk_of {x : In} {behind locs : Int} (h : refMay x behind locs = true) (hl : locs ≤ 3) (hb : behind ≤ 1000) : InOk x := by
  unfold refMay at h
  simp only [Bool.and_eq_true, decide_eq_true_eq] at h
  obtain ⟨⟨⟨⟨⟨⟨h1, h2⟩, h3⟩, _⟩, _⟩, _⟩, h7⟩ := h
  refine ⟨fun hk => ?_, fun ho => ?_, fun ho => ?_, fun ho => ?_⟩
  · unfold locB at h3
    have hk0 : 0 < kindOf x.op := by
      have : kindOf x.op = 0 ∨ kindOf x.op = 1 ∨ kindOf x.op = 2 := by
        unfold kindOf; split
        · exact .inr (.inl rfl)
        · split
          · exact .inr (.inr rfl)
          · exact .inl rfl
      omega
    rw [if_pos hk0] at h3
    simp only [Bool.and_eq_true, decide_eq_true_eq] at h3
    exact ⟨by omega, by omega⟩
  · unfold immB' at h7
    rw [if_pos ho] at h7
    simp only [Bool.and_eq_true, decide_eq_true_eq] at h7
    exact ⟨by omega, by omega⟩
  · unfold immB' at h7
    rw [if_neg (by omega), if_pos ho] at h7
    simp only [Bool.and_eq_true, decide_eq_true_eq] at h7
    exact h7
  · unfold immB' at h7
    rw [if_neg (by omega), if_neg (by omega), if_pos ho] at h7
    simp only [Bool.and_eq_true, decide_eq_true_eq] at h7
    omega

/-- A thread that may be. -/
theorem mayTh_parts {th : List In} {locs : Int} (h : mayTh th locs = true) : th.length ≤ 8 ∧ 1 ≤ locs ∧ locs ≤ 3 ∧ ∀ (i : Nat) (hi : i < th.length), refMay th[i] (th.length - 1 - i : Int) locs = true := by
  unfold mayTh at h
  simp only [Bool.and_eq_true, decide_eq_true_eq] at h
  obtain ⟨hk, ⟨h8, h1⟩, h3⟩ := h
  refine ⟨h8, h1, h3, fun i hi => ?_⟩
  unfold mayK at hk
  rw [List.all_eq_true] at hk
  have := hk i (List.mem_range.2 hi)
  rw [List.getElem?_eq_getElem hi] at this
  rw [← mayB_ref _ _ _ h1]
  exact this
theorem mayTh_of {th : List In} {locs : Int} (h8 : th.length ≤ 8) (h1 : 1 ≤ locs) (h3 : locs ≤ 3) (h : ∀ (i : Nat) (hi : i < th.length), refMay th[i] (th.length - 1 - i : Int) locs = true) : mayTh th locs = true := by
  unfold mayTh mayK
  simp only [Bool.and_eq_true, decide_eq_true_eq, List.all_eq_true]
  refine ⟨fun i hi => ?_, ⟨h8, h1⟩, h3⟩
  have hi := List.mem_range.1 hi
  rw [List.getElem?_eq_getElem hi]
  show mayB _ _ _ = true
  rw [mayB_ref _ _ _ h1]
  exact h i hi
theorem mayTh_inOk {th : List In} {locs : Int} (h : mayTh th locs = true) : ∀ x ∈ th, InOk x := by
  obtain ⟨h8, h1, h3, hm⟩ := mayTh_parts h
  intro x hx
  obtain ⟨i, hi, rfl⟩ := List.mem_iff_getElem.1 hx
  exact inOk_of (hm i hi) h3 (by omega)

end Go.Proofs.Ytgefngjfpodiiaa
