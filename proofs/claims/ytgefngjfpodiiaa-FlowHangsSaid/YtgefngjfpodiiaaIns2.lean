/-
  Whether an instruction may be (ins.imm, ins.May), by walks.
-/
import Derived.Test.YtgefngjfpodiiaaIns
namespace Go.Proofs.Ytgefngjfpodiiaa
open Go.RowKit
set_option linter.unusedVariables false

def immB (x : In) (behind : Int) : Bool := if x.op = 1 then betweenB x.imm (-1000) 1000 else if x.op = 11 then betweenB x.imm 0 2 else betweenB x.imm 0 behind

theorem imm_any (x : In) (behind : Int) (w : World) : Calls Try.prog 45 #[.agg x.arr, .int .i64 behind] w fun e w' => e = .returned (.bool (immB x behind)) ∧ Below w.heap.size w w' := by
  have hb : Below w.heap.size w (w.alloc (.cells x.arr 51)) := (Below.refl _ _).alloc (Nat.le_refl _) _
  unfold In.arr at *
  by_cases h1 : x.op = 1
  · have H : Hid (immB x behind = betweenB x.imm (-1000) 1000) := by unfold Hid immB; simp [h1]
    have t1 : (x.op == 1) = true := by simp [h1]
    clear h1
    go_enter Try.func45, Try.ntmps45
    go_wp2_with fail
    refine (between_any _ _ _ _).mono ?_
    rintro e w1 ⟨rfl, rfl⟩
    go_wp2_with fail
    go_ret
    exact ⟨by rw [H.out]; rfl, hb⟩
  · have t1 : (x.op == 1) = false := by simp [h1]
    by_cases h2 : x.op = 11
    · have H : Hid (immB x behind = betweenB x.imm 0 2) := by unfold Hid immB; simp [h2]
      have t2 : (x.op == 11) = true := by simp [h2]
      clear h1 h2
      go_enter Try.func45, Try.ntmps45
      go_wp2_with fail
      refine (between_any _ _ _ _).mono ?_
      rintro e w1 ⟨rfl, rfl⟩
      go_wp2_with fail
      go_ret
      exact ⟨by rw [H.out]; rfl, hb⟩
    · have H : Hid (immB x behind = betweenB x.imm 0 behind) := by unfold Hid immB; simp [h1, h2]
      have t2 : (x.op == 11) = false := by simp [h2]
      clear h1 h2
      go_enter Try.func45, Try.ntmps45
      go_wp2_with fail
      refine (between_any _ _ _ _).mono ?_
      rintro e w1 ⟨rfl, rfl⟩
      go_wp2_with fail
      go_ret
      exact ⟨by rw [H.out]; rfl, hb⟩

/-- Has an operation the field k? -/
def hasF (op : Int) (k : Nat) : Bool := (flN (rowNo op)).testBit k
theorem hasF_bit (op : Int) (k : Nat) (hk : k < 5) : bits .and .i64 (flN (rowNo op) : Int) (2 ^ k : Nat) = if hasF op k then ((2 ^ k : Nat) : Int) else 0 := by
  unfold hasF
  generalize rowNo op = i
  rcases Nat.lt_or_ge i 15 with h | h
  · revert k i; decide
  · have : flN i = 0 := by unfold flN; simp [List.getD, h]
    rw [this]; revert k; decide

def fieldN (x : In) (k : Nat) : Int := [x.d, x.a, x.b, x.loc].getD k 0
def fieldLeast (x : In) (k : Nat) : Int := if k = 1 ∧ kindOf x.op ≠ 0 then -1 else 0
def fieldTop (locs : Int) (k : Nat) : Int := if k < 3 then 3 else max locs 0 - 1
def fieldOk (x : In) (locs : Int) (k : Nat) : Bool := if hasF x.op k then betweenB (fieldN x k) (fieldLeast x k) (fieldTop locs k) else fieldN x k == 0
def mayTo (x : In) (locs : Int) (k : Nat) : Bool := (List.range k).all (fieldOk x locs)
def mayB (x : In) (behind locs : Int) : Bool := mayTo x locs 4 && (if hasF x.op 4 then immB x behind else (decide (1 ≤ x.op) && decide (x.op < 15)) && x.imm == 0)
theorem mayTo_succ (x : In) (locs : Int) (k : Nat) : mayTo x locs (k + 1) = (mayTo x locs k && fieldOk x locs k) := by simp [mayTo, List.range_succ]

/-- Row k of the four fields, as the loop of May reads it. -/
structure FieldAt (w : World) (b : Nat) (x : In) (locs : Int) (k : Nat) (bk : Int) : Prop where
  c0 : w.cell? ⟨b, k * 4, none⟩ = some (.int .i64 bk)
  c1 : w.cell? ⟨b, k * 4 + 1, none⟩ = some (.int .i64 (fieldN x k))
  c2 : w.cell? ⟨b, k * 4 + 2, none⟩ = some (.int .i64 (fieldLeast x k))
  c3 : w.cell? ⟨b, k * 4 + 3, none⟩ = some (.int .i64 (fieldTop locs k))
  no : (bits .and .i64 (flN (rowNo x.op) : Int) bk == 0) = !hasF x.op k
  yes : (bits .and .i64 (flN (rowNo x.op) : Int) bk != 0) = hasF x.op k

theorem fieldCells (w2 : World) (x : In) (locs least top : Int) (t : TypeId) (h1 : fieldLeast x 1 = least) (h3 : fieldTop locs 3 = top) (k : Nat) (hk : k < 4) :
    ∃ bk, FieldAt (w2.alloc (.cells #[.int .i64 1, .int .i64 x.d, .int .i64 0, .int .i64 3, .int .i64 2, .int .i64 x.a, .int .i64 least, .int .i64 3, .int .i64 4, .int .i64 x.b, .int .i64 0, .int .i64 3, .int .i64 8, .int .i64 x.loc, .int .i64 0, .int .i64 top] t)) w2.heap.size x locs k bk := by
  subst h1 h3
  have hbit := hasF_bit x.op k (by omega)
  have hB := Blk.new w2 #[.int .i64 1, .int .i64 x.d, .int .i64 0, .int .i64 3, .int .i64 2, .int .i64 x.a, .int .i64 (fieldLeast x 1), .int .i64 3, .int .i64 4, .int .i64 x.b, .int .i64 0, .int .i64 3, .int .i64 8, .int .i64 x.loc, .int .i64 0, .int .i64 (fieldTop locs 3)] t
  refine ⟨((2 ^ k : Nat) : Int), ?_, ?_, ?_, ?_, ?_, ?_⟩
  · match k, hk with
    | 0, _ => exact hB.cell 0 _ rfl
    | 1, _ => exact hB.cell 4 _ rfl
    | 2, _ => exact hB.cell 8 _ rfl
    | 3, _ => exact hB.cell 12 _ rfl
  · match k, hk with
    | 0, _ => exact hB.cell 1 _ rfl
    | 1, _ => exact hB.cell 5 _ rfl
    | 2, _ => exact hB.cell 9 _ rfl
    | 3, _ => exact hB.cell 13 _ rfl
  · match k, hk with
    | 0, _ => exact hB.cell 2 _ rfl
    | 1, _ => exact hB.cell 6 _ rfl
    | 2, _ => exact hB.cell 10 _ rfl
    | 3, _ => exact hB.cell 14 _ rfl
  · match k, hk with
    | 0, _ => exact hB.cell 3 _ rfl
    | 1, _ => exact hB.cell 7 _ rfl
    | 2, _ => exact hB.cell 11 _ rfl
    | 3, _ => exact hB.cell 15 _ rfl
  · rw [hbit]; cases hasF x.op k
    · rfl
    · have : 0 < 2 ^ k := Nat.pow_pos (by omega)
      simp only [if_true, Bool.not_true, beq_eq_false_iff_ne]; omega
  · rw [hbit]; cases hasF x.op k
    · rfl
    · have : 0 < 2 ^ k := Nat.pow_pos (by omega)
      simp only [if_true, bne_iff_ne]; omega
theorem FieldAt.on {w w' : World} {b : Nat} {x : In} {locs : Int} {k : Nat} {bk : Int} (h : FieldAt w b x locs k bk) (hb : Below w.heap.size w w') (hlt : b < w.heap.size) : FieldAt w' b x locs k bk :=
  ⟨cell_later_ hb hlt h.c0, cell_later_ hb hlt h.c1, cell_later_ hb hlt h.c2, cell_later_ hb hlt h.c3, h.no, h.yes⟩

theorem name_some (op : Int) (h : 1 ≤ op ∧ op < 15) : (nameS (rowNo op)).toList ≠ [] := by
  obtain ⟨i, rfl⟩ := Int.eq_ofNat_of_zero_le (show 0 ≤ op by omega)
  have : rowNo (i : Int) = i := by unfold rowNo; rw [if_pos (by omega)]; simp
  rw [this]
  have h2 : i < 15 := by omega
  have h1 : i ≠ 0 := by omega
  clear h this
  have : ∀ i, i < 15 → i ≠ 0 → (nameS i).toList ≠ [] := by decide +kernel
  exact this i h2 h1
theorem name_none (op : Int) (h : ¬(1 ≤ op ∧ op < 15)) : (nameS (rowNo op)).toList = [] := by
  have : rowNo op = 0 := by
    unfold rowNo
    split
    · omega
    · rfl
  rw [this]; decide +kernel
theorem mayB_no (x : In) (behind locs : Int) (k : Nat) (hk : k < 4) (h : fieldOk x locs k = false) : mayB x behind locs = false := by
  have : mayTo x locs 4 = false := by
    unfold mayTo
    rw [List.all_eq_false]
    exact ⟨k, by simpa using hk, by rw [h]; simp⟩
  simp [mayB, this]
theorem fieldOk_has (x : In) (locs : Int) (k : Nat) (h : hasF x.op k = true) : fieldOk x locs k = betweenB (fieldN x k) (fieldLeast x k) (fieldTop locs k) := by simp [fieldOk, h]
theorem fieldOk_not (x : In) (locs : Int) (k : Nat) (h : hasF x.op k = false) : fieldOk x locs k = (fieldN x k == 0) := by simp [fieldOk, h]

set_option maxHeartbeats 12800000 in
theorem may_any (x : In) (behind locs : Int) (w : World) (hlocs : locs ≤ 9223372036854775807) : Calls Try.prog 28 #[.agg x.arr, .int .i64 behind, .int .i64 locs] w fun e w' => e = .returned (.bool (mayB x behind locs)) ∧ Below w.heap.size w w' := by
  have hb : Below w.heap.size w (w.alloc (.cells x.arr 51)) := (Below.refl _ _).alloc (Nat.le_refl _) _
  have hkind := fun w => kind_any x w
  have hfield : Hid (∀ k, fieldLeast x k = if k = 1 ∧ kindOf x.op ≠ 0 then -1 else 0) := fun k => rfl
  have himm := Lib.hid (fun w => imm_any x behind w)
  have hX : Blk (w.alloc (.cells x.arr 51)) w.heap.size x.arr 51 := Blk.new _ _ _
  obtain ⟨mx, hmx0⟩ : ∃ mx, max locs 0 = mx := ⟨_, rfl⟩
  have hmax : (if locs < 0 then (0 : Int) else locs) = mx := by rw [← hmx0, Int.max_def]; split <;> split <;> omega
  have hmax' : (if (0 : Int) > locs then (0 : Int) else locs) = mx := hmax
  have hm0 : 0 ≤ mx := by omega
  have hm1 : mx ≤ 9223372036854775807 := by omega
  have hmx : Hid (max locs 0 = mx ∧ True) := ⟨hmx0, trivial⟩
  clear hmx0 hlocs
  unfold In.arr at *
  generalize hKo : kindOf x.op = ko at *
  clear hKo
  rcases Decidable.em (ko = 0) with hk0 | hk0
  case inl =>
    have tk : (ko != 0) = false := by simp [hk0]
    go_enter Try.func28, Try.ntmps28
    go_wp2_with fail
    refine (of_any _ _).mono ?_
    rintro e w1 ⟨rfl, hb1⟩
    have hX1 := hX.later hb1
    obtain ⟨c0, c1, c2, c3, c4, c5⟩ := Blk.ins (x := x) hX1
    have hlt := hX1.lt
    go_wp2_with fail
    refine (hkind _).mono ?_
    rintro e w2 ⟨rfl, hb2⟩
    have hX2 := (hX1.alloc (.cells #[.string (nameS (rowNo x.op)), .int .i64 (flN (rowNo x.op) : Int)] 75)).later hb2
    have hR2 := (Blk.new w1 #[.string (nameS (rowNo x.op)), .int .i64 (flN (rowNo x.op) : Int)] 75).later hb2
    obtain ⟨d0, d1, d2, d3, d4, d5⟩ := Blk.ins (x := x) hX2
    have hlt2 := hX2.lt
    have hlr2 := hR2.lt
    have hbe := hb.trans ((hb1.trans (((Below.refl _ w1).alloc (by exact hb1.size) _).trans (hb2.mono (by have := hb1.size; simp at this ⊢; omega)))).mono (by simp))
    clear c0 c1 c2 c3 c4 c5 hb1 hb2 hX1 hX hb hlt hkind
    go_wp2_with fail
    have hL0 : ∀ k, k < 4 → ∃ bk, FieldAt (w2.alloc (.cells #[.int .i64 1, .int .i64 x.d, .int .i64 0, .int .i64 3, .int .i64 2, .int .i64 x.a, .int .i64 0, .int .i64 3, .int .i64 4, .int .i64 x.b, .int .i64 0, .int .i64 3, .int .i64 8, .int .i64 x.loc, .int .i64 0, .int .i64 (mx - 1)] 77)) w2.heap.size x locs k bk := fun k hk => fieldCells w2 x locs 0 (mx - 1) 77 (by rw [hfield.out 1, hk0]; rfl) (by rw [← hmx.out.1]; rfl) k hk
    have hX3 : Blk (w2.alloc (.cells #[.int .i64 1, .int .i64 x.d, .int .i64 0, .int .i64 3, .int .i64 2, .int .i64 x.a, .int .i64 0, .int .i64 3, .int .i64 4, .int .i64 x.b, .int .i64 0, .int .i64 3, .int .i64 8, .int .i64 x.loc, .int .i64 0, .int .i64 (mx - 1)] 77)) _ _ _ := hX2.alloc _
    have hR3 : Blk (w2.alloc (.cells #[.int .i64 1, .int .i64 x.d, .int .i64 0, .int .i64 3, .int .i64 2, .int .i64 x.a, .int .i64 0, .int .i64 3, .int .i64 4, .int .i64 x.b, .int .i64 0, .int .i64 3, .int .i64 8, .int .i64 x.loc, .int .i64 0, .int .i64 (mx - 1)] 77)) _ _ _ := hR2.alloc _
    have hbe3 : Below _ _ (w2.alloc (.cells #[.int .i64 1, .int .i64 x.d, .int .i64 0, .int .i64 3, .int .i64 2, .int .i64 x.a, .int .i64 0, .int .i64 3, .int .i64 4, .int .i64 x.b, .int .i64 0, .int .i64 3, .int .i64 8, .int .i64 x.loc, .int .i64 0, .int .i64 (mx - 1)] 77)) := below_alloc hbe _ (Nat.le_refl _)
    have hs3 : (w2.alloc (.cells #[.int .i64 1, .int .i64 x.d, .int .i64 0, .int .i64 3, .int .i64 2, .int .i64 x.a, .int .i64 0, .int .i64 3, .int .i64 4, .int .i64 x.b, .int .i64 0, .int .i64 3, .int .i64 8, .int .i64 x.loc, .int .i64 0, .int .i64 (mx - 1)] 77)).heap.size = w2.heap.size + 1 := by simp
    obtain ⟨w3, hW⟩ : ∃ w3, (w2.alloc (.cells #[.int .i64 1, .int .i64 x.d, .int .i64 0, .int .i64 3, .int .i64 2, .int .i64 x.a, .int .i64 0, .int .i64 3, .int .i64 4, .int .i64 x.b, .int .i64 0, .int .i64 3, .int .i64 8, .int .i64 x.loc, .int .i64 0, .int .i64 (mx - 1)] 77)) = w3 := ⟨_, rfl⟩
    rw [hW] at hL0 hX3 hR3 hbe3 hs3
    rw [hW]
    have hL := Lib.hid hL0
    clear hL0 hW d0 d1 d2 d3 d4 d5 hX2 hR2 hlt2 hlr2 hbe hmax hmax'
    go_loopw [39] (fun i wr => ∃ k : Nat, k ≤ 4 ∧ i = .int .i64 k ∧ mayTo x locs k = true ∧ Below w3.heap.size w3 wr)
      (fun i _ => 4 - (intOf i).toNat)
    case atStart => exact ⟨0, by omega, rfl, rfl, Below.refl _ _⟩
    case round =>
      obtain ⟨k, hk, rfl, hto, hb⟩ := hrel
      have hXr := hX3.later hb
      have hRr := hR3.later hb
      have hltX := hXr.lt
      have hltR := hRr.lt
      have hsz := hb.size
      have r0 := hRr.cell 0 (.string (nameS (rowNo x.op))) rfl
      have r1 := hRr.cell 1 (.int .i64 (flN (rowNo x.op) : Int)) rfl
      by_cases hlt : k < 4
      · obtain ⟨bk, hF0⟩ := hL.out k hlt
        have hF := hF0.on hb (by omega)
        obtain ⟨f0, f1, f2, f3, fno, fyes⟩ := hF
        have hltL : w2.heap.size < wr.heap.size := by omega
        have hki0 : (0 : Int) ≤ (k : Int) := by omega
        have hki1 : (k : Int) < 4 := by omega
        clear hF0
        have hb2 := below_alloc (hbe3.trans (hb.mono hbe3.size)) (Obj.cells #[.int .i64 bk, .int .i64 (fieldN x k), .int .i64 (fieldLeast x k), .int .i64 (fieldTop locs k)] 77) (Nat.le_refl _)
        have hb3 := below_alloc hb (Obj.cells #[.int .i64 bk, .int .i64 (fieldN x k), .int .i64 (fieldLeast x k), .int .i64 (fieldTop locs k)] 77) (Nat.le_refl _)
        have Hno := Lib.hid (mayB_no x behind locs k hlt)
        have Hsucc := Lib.hid (mayTo_succ x locs k)
        cases hf : hasF x.op k with
        | true =>
          have Hok := Lib.hid (fieldOk_has x locs k hf)
          rw [hf] at fno fyes
          have hbt := fun w => between_any (fieldN x k) (fieldLeast x k) (fieldTop locs k) w
          cases hbw : betweenB (fieldN x k) (fieldLeast x k) (fieldTop locs k) with
          | true =>
            rw [hbw] at hbt
            have Hb := Lib.hid hbw
            have Hf := Lib.hid hf
            clear hbw hf
            go_wp2_with fail
            refine (hbt _).mono ?_
            rintro e w5 ⟨rfl, rfl⟩
            go_wp2_with fail
            go_roundw
            case rel => exact ⟨k + 1, by omega, by go_num, by rw [Hsucc.out, hto, Hok.out, Hb.out]; rfl, hb3⟩
            case measure => simp [intOf]; omega
          | false =>
            rw [hbw] at hbt
            have Hb := Lib.hid hbw
            have Hf := Lib.hid hf
            clear hbw hf
            go_wp2_with fail
            refine (hbt _).mono ?_
            rintro e w5 ⟨rfl, rfl⟩
            go_wp2_with fail
            go_ret
            exact ⟨by rw [Hno.out (by rw [Hok.out, Hb.out])]; rfl, hb2⟩
        | false =>
          have Hok := Lib.hid (fieldOk_not x locs k hf)
          rw [hf] at fno fyes
          have Hf := Lib.hid hf
          clear hf
          by_cases hn : fieldN x k = 0
          · have t1 : (fieldN x k != 0) = false := by simp [hn]
            have Hn := Lib.hid hn
            clear hn
            go_wp2_with fail
            go_roundw
            case rel => exact ⟨k + 1, by omega, by go_num, by rw [Hsucc.out, hto, Hok.out, Hn.out]; rfl, hb3⟩
            case measure => simp [intOf]; omega
          · have t1 : (fieldN x k != 0) = true := by simp [hn]
            have Hn := Lib.hid hn
            clear hn
            go_wp2_with fail
            go_ret
            exact ⟨by rw [Hno.out (by rw [Hok.out]; exact beq_eq_false_iff_ne.2 Hn.out)]; rfl, hb2⟩
      · obtain rfl : k = 4 := by omega
        have hbw := hbe3.trans (hb.mono hbe3.size)
        have hbit := hasF_bit x.op 4 (by omega)
        obtain ⟨e0, e1, e2, e3, e4, e5⟩ := Blk.ins (x := x) hXr
        have hm4 : mayB x behind locs = (if hasF x.op 4 then immB x behind else (decide (1 ≤ x.op) && decide (x.op < 15)) && x.imm == 0) := by
          unfold mayB; rw [hto]; rfl
        cases hf : hasF x.op 4 with
        | true =>
          rw [hf, if_pos rfl] at hbit hm4
          have t1 : (bits .and .i64 (flN (rowNo x.op) : Int) 16 == 0) = false := by rw [show (16 : Int) = ((2 ^ 4 : Nat) : Int) from rfl, hbit]; rfl
          have Hm := Lib.hid hm4
          clear hbit hm4 hf
          go_wp2_with fail
          refine (himm.out _).mono ?_
          rintro e w5 ⟨rfl, hb5⟩
          go_wp2_with fail
          go_ret
          exact ⟨by rw [Hm.out]; rfl, below_then hbw hb5 hbw.size⟩
        | false =>
          rw [hf] at hbit hm4
          have t1 : (bits .and .i64 (flN (rowNo x.op) : Int) 16 == 0) = true := by rw [show (16 : Int) = ((2 ^ 4 : Nat) : Int) from rfl, hbit]; rfl
          by_cases hnm : 1 ≤ x.op ∧ x.op < 15
          · have t2 := name_some x.op hnm
            have t2' : (nameS (rowNo x.op)).toList.isEmpty = false := List.isEmpty_eq_false_iff.2 t2
            by_cases hi : x.imm = 0
            · have t3 : (x.imm == 0) = true := by simp [hi]
              have Hm : Hid (mayB x behind locs = true) := by unfold Hid; rw [hm4]; simp [hnm, hi]
              clear hbit hm4 hf hnm hi
              go_wp2_with fail
              go_ret
              exact ⟨by rw [Hm.out]; rfl, hbw⟩
            · have t3 : (x.imm == 0) = false := by simp [hi]
              have Hm : Hid (mayB x behind locs = false) := by unfold Hid; rw [hm4]; simp [hnm, hi]
              clear hbit hm4 hf hnm hi
              go_wp2_with fail
              go_ret
              exact ⟨by rw [Hm.out]; rfl, hbw⟩
          · have t2 := name_none x.op hnm
            have t2' : (nameS (rowNo x.op)).toList.isEmpty = true := List.isEmpty_iff.2 t2
            have Hm : Hid (mayB x behind locs = false) := by
              unfold Hid; rw [hm4]
              have : (decide (1 ≤ x.op) && decide (x.op < 15)) = false := by
                rw [Bool.and_eq_false_iff]
                rcases (show x.op < 1 ∨ 15 ≤ x.op by omega) with h | h
                · exact .inl (by simp; omega)
                · exact .inr (by simp; omega)
              rw [this]; rfl
            clear hbit hm4 hf hnm
            go_wp2_with fail
            go_ret
            exact ⟨by rw [Hm.out]; rfl, hbw⟩
  case inr =>
    have tk : (ko != 0) = true := by simp [hk0]
    go_enter Try.func28, Try.ntmps28
    go_wp2_with fail
    refine (of_any _ _).mono ?_
    rintro e w1 ⟨rfl, hb1⟩
    have hX1 := hX.later hb1
    obtain ⟨c0, c1, c2, c3, c4, c5⟩ := Blk.ins (x := x) hX1
    have hlt := hX1.lt
    go_wp2_with fail
    refine (hkind _).mono ?_
    rintro e w2 ⟨rfl, hb2⟩
    have hX2 := (hX1.alloc (.cells #[.string (nameS (rowNo x.op)), .int .i64 (flN (rowNo x.op) : Int)] 75)).later hb2
    have hR2 := (Blk.new w1 #[.string (nameS (rowNo x.op)), .int .i64 (flN (rowNo x.op) : Int)] 75).later hb2
    obtain ⟨d0, d1, d2, d3, d4, d5⟩ := Blk.ins (x := x) hX2
    have hlt2 := hX2.lt
    have hlr2 := hR2.lt
    have hbe := hb.trans ((hb1.trans (((Below.refl _ w1).alloc (by exact hb1.size) _).trans (hb2.mono (by have := hb1.size; simp at this ⊢; omega)))).mono (by simp))
    clear c0 c1 c2 c3 c4 c5 hb1 hb2 hX1 hX hb hlt hkind
    go_wp2_with fail
    have hL0 : ∀ k, k < 4 → ∃ bk, FieldAt (w2.alloc (.cells #[.int .i64 1, .int .i64 x.d, .int .i64 0, .int .i64 3, .int .i64 2, .int .i64 x.a, .int .i64 (-1), .int .i64 3, .int .i64 4, .int .i64 x.b, .int .i64 0, .int .i64 3, .int .i64 8, .int .i64 x.loc, .int .i64 0, .int .i64 (mx - 1)] 77)) w2.heap.size x locs k bk := fun k hk => fieldCells w2 x locs (-1) (mx - 1) 77 (by rw [hfield.out 1, if_pos ⟨rfl, hk0⟩]) (by rw [← hmx.out.1]; rfl) k hk
    have hX3 : Blk (w2.alloc (.cells #[.int .i64 1, .int .i64 x.d, .int .i64 0, .int .i64 3, .int .i64 2, .int .i64 x.a, .int .i64 (-1), .int .i64 3, .int .i64 4, .int .i64 x.b, .int .i64 0, .int .i64 3, .int .i64 8, .int .i64 x.loc, .int .i64 0, .int .i64 (mx - 1)] 77)) _ _ _ := hX2.alloc _
    have hR3 : Blk (w2.alloc (.cells #[.int .i64 1, .int .i64 x.d, .int .i64 0, .int .i64 3, .int .i64 2, .int .i64 x.a, .int .i64 (-1), .int .i64 3, .int .i64 4, .int .i64 x.b, .int .i64 0, .int .i64 3, .int .i64 8, .int .i64 x.loc, .int .i64 0, .int .i64 (mx - 1)] 77)) _ _ _ := hR2.alloc _
    have hbe3 : Below _ _ (w2.alloc (.cells #[.int .i64 1, .int .i64 x.d, .int .i64 0, .int .i64 3, .int .i64 2, .int .i64 x.a, .int .i64 (-1), .int .i64 3, .int .i64 4, .int .i64 x.b, .int .i64 0, .int .i64 3, .int .i64 8, .int .i64 x.loc, .int .i64 0, .int .i64 (mx - 1)] 77)) := below_alloc hbe _ (Nat.le_refl _)
    have hs3 : (w2.alloc (.cells #[.int .i64 1, .int .i64 x.d, .int .i64 0, .int .i64 3, .int .i64 2, .int .i64 x.a, .int .i64 (-1), .int .i64 3, .int .i64 4, .int .i64 x.b, .int .i64 0, .int .i64 3, .int .i64 8, .int .i64 x.loc, .int .i64 0, .int .i64 (mx - 1)] 77)).heap.size = w2.heap.size + 1 := by simp
    obtain ⟨w3, hW⟩ : ∃ w3, (w2.alloc (.cells #[.int .i64 1, .int .i64 x.d, .int .i64 0, .int .i64 3, .int .i64 2, .int .i64 x.a, .int .i64 (-1), .int .i64 3, .int .i64 4, .int .i64 x.b, .int .i64 0, .int .i64 3, .int .i64 8, .int .i64 x.loc, .int .i64 0, .int .i64 (mx - 1)] 77)) = w3 := ⟨_, rfl⟩
    rw [hW] at hL0 hX3 hR3 hbe3 hs3
    rw [hW]
    have hL := Lib.hid hL0
    clear hL0 hW d0 d1 d2 d3 d4 d5 hX2 hR2 hlt2 hlr2 hbe hmax hmax'
    go_loopw [39] (fun i wr => ∃ k : Nat, k ≤ 4 ∧ i = .int .i64 k ∧ mayTo x locs k = true ∧ Below w3.heap.size w3 wr)
      (fun i _ => 4 - (intOf i).toNat)
    case atStart => exact ⟨0, by omega, rfl, rfl, Below.refl _ _⟩
    case round =>
      obtain ⟨k, hk, rfl, hto, hb⟩ := hrel
      have hXr := hX3.later hb
      have hRr := hR3.later hb
      have hltX := hXr.lt
      have hltR := hRr.lt
      have hsz := hb.size
      have r0 := hRr.cell 0 (.string (nameS (rowNo x.op))) rfl
      have r1 := hRr.cell 1 (.int .i64 (flN (rowNo x.op) : Int)) rfl
      by_cases hlt : k < 4
      · obtain ⟨bk, hF0⟩ := hL.out k hlt
        have hF := hF0.on hb (by omega)
        obtain ⟨f0, f1, f2, f3, fno, fyes⟩ := hF
        have hltL : w2.heap.size < wr.heap.size := by omega
        have hki0 : (0 : Int) ≤ (k : Int) := by omega
        have hki1 : (k : Int) < 4 := by omega
        clear hF0
        have hb2 := below_alloc (hbe3.trans (hb.mono hbe3.size)) (Obj.cells #[.int .i64 bk, .int .i64 (fieldN x k), .int .i64 (fieldLeast x k), .int .i64 (fieldTop locs k)] 77) (Nat.le_refl _)
        have hb3 := below_alloc hb (Obj.cells #[.int .i64 bk, .int .i64 (fieldN x k), .int .i64 (fieldLeast x k), .int .i64 (fieldTop locs k)] 77) (Nat.le_refl _)
        have Hno := Lib.hid (mayB_no x behind locs k hlt)
        have Hsucc := Lib.hid (mayTo_succ x locs k)
        cases hf : hasF x.op k with
        | true =>
          have Hok := Lib.hid (fieldOk_has x locs k hf)
          rw [hf] at fno fyes
          have hbt := fun w => between_any (fieldN x k) (fieldLeast x k) (fieldTop locs k) w
          cases hbw : betweenB (fieldN x k) (fieldLeast x k) (fieldTop locs k) with
          | true =>
            rw [hbw] at hbt
            have Hb := Lib.hid hbw
            have Hf := Lib.hid hf
            clear hbw hf
            go_wp2_with fail
            refine (hbt _).mono ?_
            rintro e w5 ⟨rfl, rfl⟩
            go_wp2_with fail
            go_roundw
            case rel => exact ⟨k + 1, by omega, by go_num, by rw [Hsucc.out, hto, Hok.out, Hb.out]; rfl, hb3⟩
            case measure => simp [intOf]; omega
          | false =>
            rw [hbw] at hbt
            have Hb := Lib.hid hbw
            have Hf := Lib.hid hf
            clear hbw hf
            go_wp2_with fail
            refine (hbt _).mono ?_
            rintro e w5 ⟨rfl, rfl⟩
            go_wp2_with fail
            go_ret
            exact ⟨by rw [Hno.out (by rw [Hok.out, Hb.out])]; rfl, hb2⟩
        | false =>
          have Hok := Lib.hid (fieldOk_not x locs k hf)
          rw [hf] at fno fyes
          have Hf := Lib.hid hf
          clear hf
          by_cases hn : fieldN x k = 0
          · have t1 : (fieldN x k != 0) = false := by simp [hn]
            have Hn := Lib.hid hn
            clear hn
            go_wp2_with fail
            go_roundw
            case rel => exact ⟨k + 1, by omega, by go_num, by rw [Hsucc.out, hto, Hok.out, Hn.out]; rfl, hb3⟩
            case measure => simp [intOf]; omega
          · have t1 : (fieldN x k != 0) = true := by simp [hn]
            have Hn := Lib.hid hn
            clear hn
            go_wp2_with fail
            go_ret
            exact ⟨by rw [Hno.out (by rw [Hok.out]; exact beq_eq_false_iff_ne.2 Hn.out)]; rfl, hb2⟩
      · obtain rfl : k = 4 := by omega
        have hbw := hbe3.trans (hb.mono hbe3.size)
        have hbit := hasF_bit x.op 4 (by omega)
        obtain ⟨e0, e1, e2, e3, e4, e5⟩ := Blk.ins (x := x) hXr
        have hm4 : mayB x behind locs = (if hasF x.op 4 then immB x behind else (decide (1 ≤ x.op) && decide (x.op < 15)) && x.imm == 0) := by
          unfold mayB; rw [hto]; rfl
        cases hf : hasF x.op 4 with
        | true =>
          rw [hf, if_pos rfl] at hbit hm4
          have t1 : (bits .and .i64 (flN (rowNo x.op) : Int) 16 == 0) = false := by rw [show (16 : Int) = ((2 ^ 4 : Nat) : Int) from rfl, hbit]; rfl
          have Hm := Lib.hid hm4
          clear hbit hm4 hf
          go_wp2_with fail
          refine (himm.out _).mono ?_
          rintro e w5 ⟨rfl, hb5⟩
          go_wp2_with fail
          go_ret
          exact ⟨by rw [Hm.out]; rfl, below_then hbw hb5 hbw.size⟩
        | false =>
          rw [hf] at hbit hm4
          have t1 : (bits .and .i64 (flN (rowNo x.op) : Int) 16 == 0) = true := by rw [show (16 : Int) = ((2 ^ 4 : Nat) : Int) from rfl, hbit]; rfl
          by_cases hnm : 1 ≤ x.op ∧ x.op < 15
          · have t2 := name_some x.op hnm
            have t2' : (nameS (rowNo x.op)).toList.isEmpty = false := List.isEmpty_eq_false_iff.2 t2
            by_cases hi : x.imm = 0
            · have t3 : (x.imm == 0) = true := by simp [hi]
              have Hm : Hid (mayB x behind locs = true) := by unfold Hid; rw [hm4]; simp [hnm, hi]
              clear hbit hm4 hf hnm hi
              go_wp2_with fail
              go_ret
              exact ⟨by rw [Hm.out]; rfl, hbw⟩
            · have t3 : (x.imm == 0) = false := by simp [hi]
              have Hm : Hid (mayB x behind locs = false) := by unfold Hid; rw [hm4]; simp [hnm, hi]
              clear hbit hm4 hf hnm hi
              go_wp2_with fail
              go_ret
              exact ⟨by rw [Hm.out]; rfl, hbw⟩
          · have t2 := name_none x.op hnm
            have t2' : (nameS (rowNo x.op)).toList.isEmpty = true := List.isEmpty_iff.2 t2
            have Hm : Hid (mayB x behind locs = false) := by
              unfold Hid; rw [hm4]
              have : (decide (1 ≤ x.op) && decide (x.op < 15)) = false := by
                rw [Bool.and_eq_false_iff]
                rcases (show x.op < 1 ∨ 15 ≤ x.op by omega) with h | h
                · exact .inl (by simp; omega)
                · exact .inr (by simp; omega)
              rw [this]; rfl
            clear hbit hm4 hf hnm
            go_wp2_with fail
            go_ret
            exact ⟨by rw [Hm.out]; rfl, hbw⟩

end Go.Proofs.Ytgefngjfpodiiaa
