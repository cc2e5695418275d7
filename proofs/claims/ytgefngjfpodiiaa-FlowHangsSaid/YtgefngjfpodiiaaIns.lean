/-
  The instruction set (package ins): which fields an instruction has, and whether it may be, by walks.
-/
import Derived.Test.YtgefngjfpodiiaaProg
import Derived.Test.YtgefngjfpodiiaaEv
namespace Go.Proofs.Ytgefngjfpodiiaa
open Go.RowKit
set_option linter.unusedVariables false

structure In where
  op : Int
  d : Int
  a : Int
  b : Int
  loc : Int
  imm : Int
  deriving DecidableEq
def In.arr (x : In) : Array Value := #[.int .i64 x.op, .int .i64 x.d, .int .i64 x.a, .int .i64 x.b, .int .i64 x.loc, .int .i64 x.imm]

theorem Blk.ins {w : World} {g : Nat} {x : In} {t : TypeId} (h : Blk w g x.arr t) : w.cell? ⟨g, 0, none⟩ = some (.int .i64 x.op) ∧ w.cell? ⟨g, 1, none⟩ = some (.int .i64 x.d) ∧ w.cell? ⟨g, 2, none⟩ = some (.int .i64 x.a) ∧
    w.cell? ⟨g, 3, none⟩ = some (.int .i64 x.b) ∧ w.cell? ⟨g, 4, none⟩ = some (.int .i64 x.loc) ∧ w.cell? ⟨g, 5, none⟩ = some (.int .i64 x.imm) :=
  ⟨h.cell 0 _ rfl, h.cell 1 _ rfl, h.cell 2 _ rfl, h.cell 3 _ rfl, h.cell 4 _ rfl, h.cell 5 _ rfl⟩

def kindOf (op : Int) : Int := if op = 5 ∨ op = 7 ∨ op = 9 then 1 else if op = 6 ∨ op = 8 ∨ op = 10 then 2 else 0

set_option maxHeartbeats 800000 in
theorem kind_any (x : In) (w : World) : Calls Try.prog 29 #[.agg x.arr] w fun e w' => e = .returned (.int .i64 (kindOf x.op)) ∧ Below w.heap.size w w' := by
  have hb : Below w.heap.size w (w.alloc (.cells x.arr 51)) := (Below.refl _ _).alloc (Nat.le_refl _) _
  unfold In.arr at *
  by_cases h5 : x.op = 5
  · have H : Hid (kindOf x.op = 1) := by unfold Hid kindOf; simp [h5]
    have t5 : (x.op == 5) = true := by simp [h5]
    clear h5
    go_enter Try.func29, Try.ntmps29
    go_wp2
    go_ret
    exact ⟨by rw [H.out]; rfl, hb⟩
  have t5 : (x.op == 5) = false := by simp [h5]
  by_cases h7 : x.op = 7
  · have H : Hid (kindOf x.op = 1) := by unfold Hid kindOf; simp [h7]
    have t7 : (x.op == 7) = true := by simp [h7]
    clear h5 h7
    go_enter Try.func29, Try.ntmps29
    go_wp2
    go_ret
    exact ⟨by rw [H.out]; rfl, hb⟩
  have t7 : (x.op == 7) = false := by simp [h7]
  by_cases h9 : x.op = 9
  · have H : Hid (kindOf x.op = 1) := by unfold Hid kindOf; simp [h9]
    have t9 : (x.op == 9) = true := by simp [h9]
    clear h5 h7 h9
    go_enter Try.func29, Try.ntmps29
    go_wp2
    go_ret
    exact ⟨by rw [H.out]; rfl, hb⟩
  have t9 : (x.op == 9) = false := by simp [h9]
  by_cases h6 : x.op = 6
  · have H : Hid (kindOf x.op = 2) := by unfold Hid kindOf; simp [h6]
    have t6 : (x.op == 6) = true := by simp [h6]
    clear h5 h7 h9 h6
    go_enter Try.func29, Try.ntmps29
    go_wp2
    go_ret
    exact ⟨by rw [H.out]; rfl, hb⟩
  have t6 : (x.op == 6) = false := by simp [h6]
  by_cases h8 : x.op = 8
  · have H : Hid (kindOf x.op = 2) := by unfold Hid kindOf; simp [h8]
    have t8 : (x.op == 8) = true := by simp [h8]
    clear h5 h7 h9 h6 h8
    go_enter Try.func29, Try.ntmps29
    go_wp2
    go_ret
    exact ⟨by rw [H.out]; rfl, hb⟩
  have t8 : (x.op == 8) = false := by simp [h8]
  by_cases h10 : x.op = 10
  · have H : Hid (kindOf x.op = 2) := by unfold Hid kindOf; simp [h10]
    have t10 : (x.op == 10) = true := by simp [h10]
    clear h5 h7 h9 h6 h8 h10
    go_enter Try.func29, Try.ntmps29
    go_wp2
    go_ret
    exact ⟨by rw [H.out]; rfl, hb⟩
  have t10 : (x.op == 10) = false := by simp [h10]
  have H : Hid (kindOf x.op = 0) := by unfold Hid kindOf; simp [h5, h6, h7, h8, h9, h10]
  clear h5 h7 h9 h6 h8 h10
  go_enter Try.func29, Try.ntmps29
  go_wp2
  go_ret
  exact ⟨by rw [H.out]; rfl, hb⟩

def betweenB (n a b : Int) : Bool := decide (a ≤ n) && decide (n ≤ b)
theorem between_any (n a b : Int) (w : World) : Calls Try.prog 44 #[.int .i64 n, .int .i64 a, .int .i64 b] w fun e w' => e = .returned (.bool (betweenB n a b)) ∧ w = w' := by
  unfold betweenB
  by_cases h1 : a ≤ n
  · have t1 : decide (a ≤ n) = true := by simp [h1]
    by_cases h2 : n ≤ b
    · have t2 : decide (n ≤ b) = true := by simp [h2]
      go_enter Try.func44, Try.ntmps44
      go_wp2
      go_ret
      exact ⟨(by first | rfl | (rw [t1, t2]; rfl)), rfl⟩
    · have t2 : decide (n ≤ b) = false := by simp; omega
      go_enter Try.func44, Try.ntmps44
      go_wp2
      go_ret
      exact ⟨(by first | rfl | (rw [t1, t2]; rfl)), rfl⟩
  · have t1 : decide (a ≤ n) = false := by simp; omega
    go_enter Try.func44, Try.ntmps44
    go_wp2
    go_ret
    exact ⟨(by first | rfl | (rw [t1]; rfl)), rfl⟩

def nameS (i : Nat) := ([⟨#[]⟩, ⟨#[109, 111, 118]⟩, ⟨#[97, 100, 100]⟩, ⟨#[101, 111, 114]⟩, ⟨#[97, 110, 100]⟩, ⟨#[108, 100, 114]⟩, ⟨#[115, 116, 114]⟩, ⟨#[108, 100, 97, 114]⟩, ⟨#[115, 116, 108, 114]⟩, ⟨#[108, 100, 120, 114]⟩, ⟨#[115, 116, 120, 114]⟩, ⟨#[100, 109, 98]⟩, ⟨#[105, 115, 98]⟩, ⟨#[99, 98, 122]⟩, ⟨#[99, 98, 110, 122]⟩].getD i (⟨#[]⟩ : ByteArray))
def flN (i : Nat) : Nat := [0, 17, 7, 7, 7, 11, 14, 11, 14, 11, 15, 16, 0, 18, 18].getD i 0
/-- The number of an operation's row: 0 where there is none. -/
def rowNo (op : Int) : Nat := if 0 ≤ op ∧ op < 15 then op.toNat else 0

/-- The table of operations lies at b. -/
def TableAt (w : World) (b : Nat) : Prop := ∀ i, i < 15 → w.cell? ⟨b, i * 2, none⟩ = some (.string (nameS i)) ∧ w.cell? ⟨b, i * 2 + 1, none⟩ = some (.int .i64 (flN i : Int))

set_option maxHeartbeats 1600000 in
theorem rows_any (w : World) : Calls Try.prog 52 #[] w fun e w' => (∃ b, e = .returned (.slice (some ⟨b, 0, none⟩) 15 15) ∧ b < w'.heap.size ∧ TableAt w' b) ∧ Below w.heap.size w w' := by
  go_enter Try.func52, Try.ntmps52
  go_wp2
  go_ret
  refine ⟨⟨w.heap.size, rfl, by simp, ?_⟩, (Below.refl _ _).alloc (Nat.le_refl _) _⟩
  intro i hi
  constructor
  · refine cell_new _ _ _ _ _ ?_
    match i, hi with
    | 0, _ => rfl
    | 1, _ => rfl
    | 2, _ => rfl
    | 3, _ => rfl
    | 4, _ => rfl
    | 5, _ => rfl
    | 6, _ => rfl
    | 7, _ => rfl
    | 8, _ => rfl
    | 9, _ => rfl
    | 10, _ => rfl
    | 11, _ => rfl
    | 12, _ => rfl
    | 13, _ => rfl
    | 14, _ => rfl
  · refine cell_new _ _ _ _ _ ?_
    match i, hi with
    | 0, _ => rfl
    | 1, _ => rfl
    | 2, _ => rfl
    | 3, _ => rfl
    | 4, _ => rfl
    | 5, _ => rfl
    | 6, _ => rfl
    | 7, _ => rfl
    | 8, _ => rfl
    | 9, _ => rfl
    | 10, _ => rfl
    | 11, _ => rfl
    | 12, _ => rfl
    | 13, _ => rfl
    | 14, _ => rfl

set_option maxHeartbeats 1600000 in
theorem of_any (op : Int) (w : World) : Calls Try.prog 43 #[.int .i64 op] w fun e w' => e = .returned (.agg #[.string (nameS (rowNo op)), .int .i64 (flN (rowNo op) : Int)]) ∧ Below w.heap.size w w' := by
  by_cases hin : 0 ≤ op ∧ op < 15
  · obtain ⟨i, rfl⟩ := Int.eq_ofNat_of_zero_le hin.1
    have hi : i < 15 := by omega
    have hrow : Hid (rowNo (i : Int) = i) := by unfold Hid rowNo; rw [if_pos hin]; simp
    clear hin
    go_enter Try.func43, Try.ntmps43
    go_wp2_with fail
    have hb0 : Below w.heap.size w (w.alloc (Obj.cells #[.string ⟨#[]⟩, .int .i64 0] 75)) := (Below.refl _ _).alloc (Nat.le_refl _) _
    refine (rows_any _).mono ?_
    rintro e w1 ⟨⟨b, rfl, hbl, ht⟩, hb1⟩
    have hc0 := (ht i hi).1
    have hc1 := (ht i hi).2
    clear ht
    have hx0 : Blk w1 w.heap.size _ _ := (Blk.new _ _ _).below hb1 (by simp)
    have hx1 := hx0.cell 0 _ rfl
    have hx2 := hx0.cell 1 _ rfl
    have hf0 := hx0.frozen
    have hbe := hb0.trans (hb1.mono (by simp))
    have hr0 : (0 : Int) ≤ (i : Int) := by omega
    have hr1 : decide ((i : Int) < 15) = true := by simp; omega
    clear hb1 hb0
    go_wp2_with fail
    have hx3 : Blk _ w.heap.size #[.string (nameS i), .int .i64 (flN i : Int)] _ := (hx0.set 0 (.string (nameS i))).set 1 (.int .i64 (flN i : Int))
    exact bodyPost_ret (v := .agg #[.string (nameS i), .int .i64 (flN i : Int)]) (by simp [results, Try.results43, go_sem, hx3.cell 0 _ rfl, hx3.cell 1 _ rfl]) rfl ⟨by rw [hrow.out], (hbe.setCell (Nat.le_refl _) _).setCell (Nat.le_refl _) _⟩
  · have hrow : Hid (rowNo op = 0) := by unfold Hid rowNo; rw [if_neg hin]
    have hn0 : nameS (rowNo op) = ⟨#[]⟩ := by rw [hrow.out]; rfl
    have hf00 : (flN (rowNo op) : Int) = 0 := by rw [hrow.out]; rfl
    rw [hn0, hf00]
    clear hn0 hf00 hrow
    rcases (show op < 0 ∨ (0 ≤ op ∧ 15 ≤ op) by omega) with h | ⟨h, h'⟩
    · have t1 : decide (0 ≤ op) = false := by simp; omega
      go_enter Try.func43, Try.ntmps43
      go_wp2_with fail
      have hb0 : Below w.heap.size w (w.alloc (Obj.cells #[.string ⟨#[]⟩, .int .i64 0] 75)) := (Below.refl _ _).alloc (Nat.le_refl _) _
      refine (rows_any _).mono ?_
      rintro e w1 ⟨⟨b, rfl, hbl, ht⟩, hb1⟩
      clear ht
      have hx0 : Blk w1 w.heap.size _ _ := (Blk.new _ _ _).below hb1 (by simp)
      have hx1 := hx0.cell 0 _ rfl
      have hx2 := hx0.cell 1 _ rfl
      have hf0 := hx0.frozen
      have hbe := hb0.trans (hb1.mono (by simp))
      clear hb1 hb0
      go_wp2_with fail
      have hx3 : Blk _ w.heap.size #[.string ⟨#[]⟩, .int .i64 0] _ := (hx0.set 0 (.string ⟨#[]⟩)).set 1 (.int .i64 0)
      exact bodyPost_ret (v := .agg #[.string ⟨#[]⟩, .int .i64 0]) (by simp [results, Try.results43, go_sem, hx3.cell 0 _ rfl, hx3.cell 1 _ rfl]) rfl ⟨rfl, (hbe.setCell (Nat.le_refl _) _).setCell (Nat.le_refl _) _⟩
    · have t1 : decide (0 ≤ op) = true := by simp; omega
      have t2 : decide (op < 15) = false := by simp; omega
      go_enter Try.func43, Try.ntmps43
      go_wp2_with fail
      have hb0 : Below w.heap.size w (w.alloc (Obj.cells #[.string ⟨#[]⟩, .int .i64 0] 75)) := (Below.refl _ _).alloc (Nat.le_refl _) _
      refine (rows_any _).mono ?_
      rintro e w1 ⟨⟨b, rfl, hbl, ht⟩, hb1⟩
      clear ht
      have hx0 : Blk w1 w.heap.size _ _ := (Blk.new _ _ _).below hb1 (by simp)
      have hx1 := hx0.cell 0 _ rfl
      have hx2 := hx0.cell 1 _ rfl
      have hf0 := hx0.frozen
      have hbe := hb0.trans (hb1.mono (by simp))
      clear hb1 hb0
      go_wp2_with fail
      have hx3 : Blk _ w.heap.size #[.string ⟨#[]⟩, .int .i64 0] _ := (hx0.set 0 (.string ⟨#[]⟩)).set 1 (.int .i64 0)
      exact bodyPost_ret (v := .agg #[.string ⟨#[]⟩, .int .i64 0]) (by simp [results, Try.results43, go_sem, hx3.cell 0 _ rfl, hx3.cell 1 _ rfl]) rfl ⟨rfl, (hbe.setCell (Nat.le_refl _) _).setCell (Nat.le_refl _) _⟩

end Go.Proofs.Ytgefngjfpodiiaa
