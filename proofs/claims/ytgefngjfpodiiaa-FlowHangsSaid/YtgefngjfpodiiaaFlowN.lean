/-
  Which method an instruction has (flow's does), and whether a thread may be (flow's may), by walks.
-/
import Derived.Test.YtgefngjfpodiiaaFlowX
namespace Go.Proofs.Ytgefngjfpodiiaa
open Go.RowKit
set_option linter.unusedVariables false

/-- Instructions as cells. -/
def icells (l : List In) : List Value := l.flatMap fun x => x.arr.toList
theorem icells_length (l : List In) : (icells l).length = l.length * 6 := by
  induction l with
  | nil => rfl
  | cons p l ih =>
    have e : icells (p :: l) = p.arr.toList ++ icells l := by simp [icells]
    rw [e, List.length_append, ih, List.length_cons, show p.arr.toList.length = 6 from rfl]; omega
theorem icells_append (l m : List In) : icells (l ++ m) = icells l ++ icells m := by simp [icells]
theorem icells_get (l : List In) (i : Nat) (h : i < l.length) (j : Nat) (hj : j < 6) : (icells l)[i * 6 + j]? = (l[i]).arr[j]? := by
  induction l generalizing i with
  | nil => simp at h
  | cons p l ih =>
    have e : icells (p :: l) = p.arr.toList ++ icells l := by simp [icells]
    have hp : p.arr.toList.length = 6 := rfl
    rw [e]
    cases i with
    | zero =>
      rw [List.getElem?_append_left (by rw [hp]; omega)]
      simp
    | succ i =>
      rw [List.getElem?_append_right (by rw [hp]; omega), hp, show (i + 1) * 6 + j - 6 = i * 6 + j from by omega, ih i (by simpa using h)]
      simp
theorem icells_one (l : List In) : ∀ u ∈ icells l, u.oneCell' = true := by
  intro u hu
  simp only [icells, List.mem_flatMap] at hu
  obtain ⟨p, _, h⟩ := hu
  simp only [In.arr, List.mem_cons, List.not_mem_nil, or_false] at h
  rcases h with h | h | h | h | h | h <;> subst h <;> rfl

/-- An instruction's six cells, at its place. -/
structure InAt (w : World) (b o : Nat) (x : In) : Prop where
  c0 : w.cell? ⟨b, o, none⟩ = some (.int .i64 x.op)
  c1 : w.cell? ⟨b, o + 1, none⟩ = some (.int .i64 x.d)
  c2 : w.cell? ⟨b, o + 2, none⟩ = some (.int .i64 x.a)
  c3 : w.cell? ⟨b, o + 3, none⟩ = some (.int .i64 x.b)
  c4 : w.cell? ⟨b, o + 4, none⟩ = some (.int .i64 x.loc)
  c5 : w.cell? ⟨b, o + 5, none⟩ = some (.int .i64 x.imm)
theorem InAt.below {w w' : World} {B b o : Nat} {x : In} (h : InAt w b o x) (hb : Below B w w') (hB : b < B) : InAt w' b o x := by
  obtain ⟨h0, h1, h2, h3, h4, h5⟩ := h
  exact ⟨cell_later_ hb hB h0, cell_later_ hb hB h1, cell_later_ hb hB h2, cell_later_ hb hB h3, cell_later_ hb hB h4, cell_later_ hb hB h5⟩
theorem InAt.block {w w' : World} {b o : Nat} {x : In} (h : InAt w b o x) (hb : w'.heap[b]? = w.heap[b]?) : InAt w' b o x := by
  obtain ⟨h0, h1, h2, h3, h4, h5⟩ := h
  have g := fun (o : Nat) => World.cell?_of_block (w := w) (w' := w') (a := ⟨b, o, none⟩) hb
  exact ⟨(g _).trans h0, (g _).trans h1, (g _).trans h2, (g _).trans h3, (g _).trans h4, (g _).trans h5⟩
theorem Rd.at_in {w : World} {B : Nat} {A : Option Addr} {l : List In} (h : Rd w B A (icells l)) {i : Nat} (hi : i < l.length) :
    ∃ b off, A = some ⟨b, off, none⟩ ∧ b < B ∧ ∀ j (hj : j < l.length), InAt w b (off + j * 6) l[j] := by
  rcases h with h | ⟨b, off, hA, hB, hc⟩
  · have : (icells l).length = 0 := by rw [h]; rfl
    rw [icells_length] at this; omega
  · refine ⟨b, off, hA, hB, fun j hj => ?_⟩
    have g := fun (k : Nat) (hk : k < 6) (v : Value) (hv : (l[j]).arr[k]? = some v) => hc (j * 6 + k) v ((icells_get l j hj k hk).trans hv)
    refine ⟨?_, ?_, ?_, ?_, ?_, ?_⟩
    · exact g 0 (by omega) _ rfl
    · exact g 1 (by omega) _ rfl
    · exact g 2 (by omega) _ rfl
    · exact g 3 (by omega) _ rfl
    · exact g 4 (by omega) _ rfl
    · exact g 5 (by omega) _ rfl

/-- The method that does an instruction. -/
def stepF (x : In) : Nat := if kindOf x.op = 1 then 30 else if x.op = 10 then 31 else if kindOf x.op = 2 then 32 else if x.op = 11 ∨ x.op = 12 then 33 else if x.op = 13 ∨ x.op = 14 then 34 else 35
def doesV (g : Nat) (n : Nat) : Value := .func (.func n) #[.pointer (some ⟨g, 0, none⟩)] #[]

set_option maxHeartbeats 3200000 in
theorem does_any (g : Nat) (x : In) (w : World) :
    Calls Try.prog 19 #[.pointer (some ⟨g, 0, none⟩), .agg x.arr] w fun e w' => e = .returned (doesV g (stepF x)) ∧ Below w.heap.size w w' := by
  have hx0 := Blk.new w x.arr 51
  have hb : Below w.heap.size w (w.alloc (.cells x.arr 51)) := (Below.refl _ _).alloc (Nat.le_refl _) _
  have hkind := fun w => kind_any x w
  have hmf : ∀ (fn : Fn) (first cap : Array Value) (w : World), (Instr.makeFunc fn first cap).run Try.prog w = .ok (.func fn first cap) w := fun _ _ _ _ => rfl
  unfold doesV
  by_cases h1 : kindOf x.op = 1
  · have Hs : Hid (stepF x = 30) := by unfold Hid stepF; rw [if_pos h1]
    have t1 : (kindOf x.op == 1) = true := by simp [h1]
    clear h1
    generalize kindOf x.op = k at *
    unfold In.arr at *
    go_enter Try.func19, Try.ntmps19
    go_wp2_with fail
    refine (hkind _).mono ?_
    rintro e w1 ⟨rfl, hb1⟩
    go_wp2_with fail
    go_ret
    exact ⟨by rw [Hs.out]; rfl, below_next hb hb1⟩
  have t1 : (kindOf x.op == 1) = false := by simp [h1]
  by_cases h2 : x.op = 10
  · have Hs : Hid (stepF x = 31) := by unfold Hid stepF; rw [if_neg h1, if_pos h2]
    have t2 : (x.op == 10) = true := by simp [h2]
    clear h1 h2
    generalize kindOf x.op = k at *
    unfold In.arr at *
    go_enter Try.func19, Try.ntmps19
    go_wp2_with fail
    refine (hkind _).mono ?_
    rintro e w1 ⟨rfl, hb1⟩
    obtain ⟨c0, c1, c2, c3, c4, c5⟩ := Blk.ins (x := x) (hx0.later hb1)
    go_wp2_with fail
    go_ret
    exact ⟨by rw [Hs.out]; rfl, below_next hb hb1⟩
  have t2 : (x.op == 10) = false := by simp [h2]
  by_cases h3 : kindOf x.op = 2
  · have Hs : Hid (stepF x = 32) := by unfold Hid stepF; rw [if_neg h1, if_neg h2, if_pos h3]
    have t3 : (kindOf x.op == 2) = true := by simp [h3]
    clear h1 h2 h3
    generalize kindOf x.op = k at *
    unfold In.arr at *
    go_enter Try.func19, Try.ntmps19
    go_wp2_with fail
    refine (hkind _).mono ?_
    rintro e w1 ⟨rfl, hb1⟩
    have hx1 := hx0.later hb1
    obtain ⟨c0, c1, c2, c3, c4, c5⟩ := Blk.ins (x := x) hx1
    go_wp2_with fail
    refine (hkind _).mono ?_
    rintro e w2 ⟨rfl, hb2⟩
    go_wp2_with fail
    go_ret
    exact ⟨by rw [Hs.out]; rfl, below_next (below_next hb hb1) hb2⟩
  have t3 : (kindOf x.op == 2) = false := by simp [h3]
  by_cases h4 : x.op = 11 ∨ x.op = 12
  · have Hs : Hid (stepF x = 33) := by unfold Hid stepF; rw [if_neg h1, if_neg h2, if_neg h3, if_pos h4]
    rcases h4 with h4 | h4
    · have t4 : (x.op == 11) = true := by simp [h4]
      clear h1 h2 h3 h4
      generalize kindOf x.op = k at *
      unfold In.arr at *
      go_enter Try.func19, Try.ntmps19
      go_wp2_with fail
      refine (hkind _).mono ?_
      rintro e w1 ⟨rfl, hb1⟩
      have hx1 := hx0.later hb1
      obtain ⟨c0, c1, c2, c3, c4, c5⟩ := Blk.ins (x := x) hx1
      go_wp2_with fail
      refine (hkind _).mono ?_
      rintro e w2 ⟨rfl, hb2⟩
      have hx2 := hx1.later hb2
      obtain ⟨d0, d1, d2, d3, d4, d5⟩ := Blk.ins (x := x) hx2
      go_wp2_with fail
      go_ret
      exact ⟨by rw [Hs.out]; rfl, below_next (below_next hb hb1) hb2⟩
    · have t4 : (x.op == 11) = false := by simp [h4]
      have t5 : (x.op == 12) = true := by simp [h4]
      clear h1 h2 h3 h4
      generalize kindOf x.op = k at *
      unfold In.arr at *
      go_enter Try.func19, Try.ntmps19
      go_wp2_with fail
      refine (hkind _).mono ?_
      rintro e w1 ⟨rfl, hb1⟩
      have hx1 := hx0.later hb1
      obtain ⟨c0, c1, c2, c3, c4, c5⟩ := Blk.ins (x := x) hx1
      go_wp2_with fail
      refine (hkind _).mono ?_
      rintro e w2 ⟨rfl, hb2⟩
      have hx2 := hx1.later hb2
      obtain ⟨d0, d1, d2, d3, d4, d5⟩ := Blk.ins (x := x) hx2
      go_wp2_with fail
      go_ret
      exact ⟨by rw [Hs.out]; rfl, below_next (below_next hb hb1) hb2⟩
  have t4 : (x.op == 11) = false := by simp; omega
  have t5 : (x.op == 12) = false := by simp; omega
  by_cases h5 : x.op = 13 ∨ x.op = 14
  · have Hs : Hid (stepF x = 34) := by unfold Hid stepF; rw [if_neg h1, if_neg h2, if_neg h3, if_neg h4, if_pos h5]
    rcases h5 with h5 | h5
    · have t6 : (x.op == 13) = true := by simp [h5]
      clear h1 h2 h3 h4 h5
      generalize kindOf x.op = k at *
      unfold In.arr at *
      go_enter Try.func19, Try.ntmps19
      go_wp2_with fail
      refine (hkind _).mono ?_
      rintro e w1 ⟨rfl, hb1⟩
      have hx1 := hx0.later hb1
      obtain ⟨c0, c1, c2, c3, c4, c5⟩ := Blk.ins (x := x) hx1
      go_wp2_with fail
      refine (hkind _).mono ?_
      rintro e w2 ⟨rfl, hb2⟩
      have hx2 := hx1.later hb2
      obtain ⟨d0, d1, d2, d3, d4, d5⟩ := Blk.ins (x := x) hx2
      go_wp2_with fail
      go_ret
      exact ⟨by rw [Hs.out]; rfl, below_next (below_next hb hb1) hb2⟩
    · have t6 : (x.op == 13) = false := by simp [h5]
      have t7 : (x.op == 14) = true := by simp [h5]
      clear h1 h2 h3 h4 h5
      generalize kindOf x.op = k at *
      unfold In.arr at *
      go_enter Try.func19, Try.ntmps19
      go_wp2_with fail
      refine (hkind _).mono ?_
      rintro e w1 ⟨rfl, hb1⟩
      have hx1 := hx0.later hb1
      obtain ⟨c0, c1, c2, c3, c4, c5⟩ := Blk.ins (x := x) hx1
      go_wp2_with fail
      refine (hkind _).mono ?_
      rintro e w2 ⟨rfl, hb2⟩
      have hx2 := hx1.later hb2
      obtain ⟨d0, d1, d2, d3, d4, d5⟩ := Blk.ins (x := x) hx2
      go_wp2_with fail
      go_ret
      exact ⟨by rw [Hs.out]; rfl, below_next (below_next hb hb1) hb2⟩
  have Hs : Hid (stepF x = 35) := by unfold Hid stepF; rw [if_neg h1, if_neg h2, if_neg h3, if_neg h4, if_neg h5]
  have t6 : (x.op == 13) = false := by simp; omega
  have t7 : (x.op == 14) = false := by simp; omega
  clear h1 h2 h3 h4 h5
  generalize kindOf x.op = k at *
  unfold In.arr at *
  go_enter Try.func19, Try.ntmps19
  go_wp2_with fail
  refine (hkind _).mono ?_
  rintro e w1 ⟨rfl, hb1⟩
  have hx1 := hx0.later hb1
  obtain ⟨c0, c1, c2, c3, c4, c5⟩ := Blk.ins (x := x) hx1
  go_wp2_with fail
  refine (hkind _).mono ?_
  rintro e w2 ⟨rfl, hb2⟩
  have hx2 := hx1.later hb2
  obtain ⟨d0, d1, d2, d3, d4, d5⟩ := Blk.ins (x := x) hx2
  go_wp2_with fail
  go_ret
  exact ⟨by rw [Hs.out]; rfl, below_next (below_next hb hb1) hb2⟩

/-- May the first k of a thread be? -/
def mayK (th : List In) (locs : Int) (k : Nat) : Bool := (List.range k).all fun i => match th[i]? with | some x => mayB x (th.length - 1 - i : Int) locs | none => true
def mayTh (th : List In) (locs : Int) : Bool := mayK th locs th.length && (decide (th.length ≤ 8) && decide (1 ≤ locs) && decide (locs ≤ 3))
theorem mayK_succ (th : List In) (locs : Int) (k : Nat) (h : k < th.length) : mayK th locs (k + 1) = (mayK th locs k && mayB th[k] (th.length - 1 - k : Int) locs) := by
  simp [mayK, List.range_succ, h]
theorem mayK_no (th : List In) (locs : Int) (k : Nat) (h : k < th.length) (hn : mayB th[k] (th.length - 1 - k : Int) locs = false) : mayTh th locs = false := by
  have : mayK th locs th.length = false := by
    unfold mayK
    rw [List.all_eq_false]
    exact ⟨k, List.mem_range.2 h, by simp [h, hn]⟩
  simp [mayTh, this]

set_option maxHeartbeats 3200000 in
theorem mayth_any (A : Option Addr) (th : List In) (c : Nat) (locs : Int) (w : World) (hr : Rd w w.heap.size A (icells th)) (hl : th.length ≤ 140737488351232) (hlocs : locs ≤ 9223372036854775807) :
    Calls Try.prog 18 #[.slice A th.length c, .int .i64 locs] w fun e w' => e = .returned (.bool (mayTh th locs)) ∧ Below w.heap.size w w' := by
  go_enter Try.func18, Try.ntmps18
  go_wp2_with fail
  go_loopw [9] (fun i wr => ∃ k : Nat, k ≤ th.length ∧ i = .int .i64 k ∧ mayK th locs k = true ∧ Below w.heap.size w wr)
    (fun i _ => th.length - (intOf i).toNat)
  case atStart => exact ⟨0, by omega, rfl, rfl, Below.refl _ _⟩
  case round =>
    obtain ⟨k, hk, rfl, hto, hb⟩ := hrel
    by_cases hlt : k < th.length
    · obtain ⟨b, off, rfl, hB, hc⟩ := hr.at_in hlt
      have hI := (hc k hlt).below hb hB
      obtain ⟨c0, c1, c2, c3, c4, c5⟩ := hI
      have hsz := hb.size
      have Hc := Lib.hid hc
      clear hc
      have Hsucc := Lib.hid (mayK_succ th locs k hlt)
      have Hno := Lib.hid (mayK_no th locs k hlt)
      have hmay := fun w => may_any th[k] (th.length - 1 - k : Int) locs w hlocs
      have i0 : (0 : Int) ≤ (k : Int) := by omega
      have i1 : (k : Int) < (th.length : Int) := by omega
      have hX : Blk (wr.alloc (.cells th[k].arr 51)) wr.heap.size th[k].arr 51 := Blk.new _ _ _
      obtain ⟨d0, d1, d2, d3, d4, d5⟩ := Blk.ins (x := th[k]) hX
      unfold In.arr at *
      have hb2 := below_alloc hb (Obj.cells #[.int .i64 th[k].op, .int .i64 th[k].d, .int .i64 th[k].a, .int .i64 th[k].b, .int .i64 th[k].loc, .int .i64 th[k].imm] 51) (Nat.le_refl _)
      cases hm : mayB th[k] (th.length - 1 - k : Int) locs with
      | true =>
        rw [hm] at hmay
        have Hm := Lib.hid hm
        clear hm
        go_wp2_with fail
        refine (hmay _).mono ?_
        rintro e w5 ⟨rfl, hb5⟩
        go_wp2_with fail
        go_roundw
        case rel => exact ⟨k + 1, by omega, by go_num, by rw [Hsucc.out, hto, Hm.out]; rfl, below_then hb2 hb5 hb2.size⟩
        case measure => simp [intOf]; omega
      | false =>
        rw [hm] at hmay
        have Hm := Lib.hid hm
        clear hm
        go_wp2_with fail
        refine (hmay _).mono ?_
        rintro e w5 ⟨rfl, hb5⟩
        go_wp2_with fail
        go_ret
        exact ⟨by rw [Hno.out Hm.out]; rfl, below_then hb2 hb5 hb2.size⟩
    · obtain rfl : k = th.length := by omega
      have hm : mayTh th locs = (decide (th.length ≤ 8) && decide (1 ≤ locs) && decide (locs ≤ 3)) := by unfold mayTh; rw [hto]; rfl
      by_cases a1 : th.length ≤ 8
      · by_cases a2 : 1 ≤ locs
        · by_cases a3 : locs ≤ 3
          · have Hm : Hid (mayTh th locs = true) := by unfold Hid; rw [hm]; simp [a1, a2, a3]
            clear hm
            go_wp2_with fail
            go_ret
            exact ⟨by rw [Hm.out]; rfl, hb⟩
          · have Hm : Hid (mayTh th locs = false) := by unfold Hid; rw [hm]; simp [a3]
            clear hm
            go_wp2_with fail
            go_ret
            exact ⟨by rw [Hm.out]; rfl, hb⟩
        · have Hm : Hid (mayTh th locs = false) := by unfold Hid; rw [hm]; simp [a2]
          clear hm
          go_wp2_with fail
          go_ret
          exact ⟨by rw [Hm.out]; rfl, hb⟩
      · have Hm : Hid (mayTh th locs = false) := by unfold Hid; rw [hm]; simp [a1]
        clear hm
        go_wp2_with fail
        go_ret
        exact ⟨by rw [Hm.out]; rfl, hb⟩

end Go.Proofs.Ytgefngjfpodiiaa
