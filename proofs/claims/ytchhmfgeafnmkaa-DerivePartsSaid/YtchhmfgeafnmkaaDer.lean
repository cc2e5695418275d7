/-
  The functions of package derive: Within, Outer, and what comes behind what a read reads, by walks.
-/
import Derived.Test.YtchhmfgeafnmkaaExec
namespace Go.Proofs.Ytchhmfgeafnmkaa
open Go.RowKit
set_option linter.unusedVariables false

def withinL (l : List Ev) (r : Rel) : Rel := andL r (innerL l)
theorem withinL_le (l : List Ev) (r : Rel) : (withinL l r).length ≤ 32 := bothL_le _ _ _

theorem orL_le (a b : Rel) : (orL a b).length ≤ 32 := bothL_le _ _ _
theorem andL_le (a b : Rel) : (andL a b).length ≤ 32 := bothL_le _ _ _
theorem innerL_le (l : List Ev) : (innerL l).length ≤ 32 := pairToE_le _ _ _

set_option maxHeartbeats 800000 in
theorem within_any (A : Option Addr) (l : List Ev) (c : Nat) (v1 v2 v3 v4 v5 v6 : Value) (A' : Option Addr) (r : Rel) (c' : Nat) (w : World) (hr : Rd w w.heap.size A (ecells l)) (hl : l.length ≤ 1000000)
    (hr' : Rd w w.heap.size A' (us r)) (hl' : r.length ≤ 1000000) :
    Calls Try.prog 5 #[.agg #[.slice A l.length c, v1, v2, v3, v4, v5, v6], .slice A' r.length c'] w (RetRel w.heap.size w (withinL l r)) := by
  have hle := innerL_le l
  go_enter Try.func5, Try.ntmps5
  go_wp2_with fail
  have hb0 : Below w.heap.size w (w.alloc (.cells #[.slice A l.length c, v1, v2, v3, v4, v5, v6] 28)) := (Below.refl _ _).alloc (Nat.le_refl _) _
  have hr0 := hr'.all hb0
  refine (inner_any A l c v1 v2 v3 v4 v5 v6 _ (hr.all hb0) hl).mono ?_
  rintro e w1 ⟨A1, c1, rfl, hown1, hb1⟩
  have hr1 := hr0.all hb1
  have hb := below_next hb0 hb1
  have hrd := Rd.of_own hown1
  clear hr hr' hr0 hb1 hown1 hb0
  go_wp2_with fail
  refine (and_any A' A1 r (innerL l) c' c1 _ hr1 hrd hl' (by omega)).mono ?_
  rintro e w2 ⟨A2, c2, rfl, hown2, hb2⟩
  have hb' := below_next hb hb2
  have hown := ownsRow_less hown2 hb.size
  clear hb2 hown2 hb
  go_wp2_with fail
  go_ret
  exact RetRel.of (A := A2) (n := (withinL l r).length) (c := c2) hown hb'

/-- Pairs between threads, put one by one. -/
def outerTest (l : List Ev) (p : Int × Int) : Bool := ((l[p.1.toNat]?).bind fun x => (l[p.2.toNat]?).map fun y => x.thread != y.thread).getD false
def outerStep (l : List Ev) (o : Rel) (p : Int × Int) : Rel := if outerTest l p = true then putL o p.1 p.2 else o
def outerTo (l : List Ev) (r : Rel) (k : Nat) : Rel := ((pairsL r).take k).foldl (outerStep l) (newL l.length)
def outerL (l : List Ev) (r : Rel) : Rel := if r.length = l.length then (pairsL r).foldl (outerStep l) (newL l.length) else []
theorem outerFold_le (l : List Ev) (ps : List (Int × Int)) (o : Rel) (h : o.length ≤ 32) : (ps.foldl (outerStep l) o).length ≤ 32 := by
  induction ps generalizing o with
  | nil => exact h
  | cons p ps ih =>
    refine ih _ ?_
    unfold outerStep; split
    · exact putL_le _ _ _
    · exact h
theorem outerTo_le (l : List Ev) (r : Rel) (k : Nat) : (outerTo l r k).length ≤ 32 := outerFold_le _ _ _ (newL_le _)
theorem outerL_le (l : List Ev) (r : Rel) : (outerL l r).length ≤ 32 := by
  unfold outerL; split
  · exact outerFold_le _ _ _ (newL_le _)
  · simp
theorem outerTo_succ (l : List Ev) (r : Rel) (k : Nat) (h : k < (pairsL r).length) : outerTo l r (k + 1) = outerStep l (outerTo l r k) (pairsL r)[k] := by
  simp only [outerTo, List.take_succ_eq_append_getElem h, List.foldl_append, List.foldl_cons, List.foldl_nil]
theorem outerTo_full (l : List Ev) (r : Rel) (h : r.length = l.length) : outerTo l r (pairsL r).length = outerL l r := by simp [outerTo, outerL, h]
theorem outerTest_at (l : List Ev) (x y : Nat) (hx : x < l.length) (hy : y < l.length) : outerTest l ((x : Int), (y : Int)) = ((l[x]).thread != (l[y]).thread) := by
  simp [outerTest, hx, hy]
theorem pairs_range' (a : Rel) (i : Nat) (h : i < (pairsL a).length) : ∃ x y : Nat, (pairsL a)[i] = ((x : Int), (y : Int)) ∧ x < (clean a).length ∧ y < a.length := by
  obtain ⟨x, y, he, hx, hy, _⟩ := (mem_pairsL a (pairsL a)[i]).1 (List.getElem_mem h)
  exact ⟨x, y, he, hx, hy⟩

set_option maxHeartbeats 1600000 in
theorem outer_any (A : Option Addr) (l : List Ev) (c : Nat) (v1 v2 v3 v4 v5 v6 : Value) (A' : Option Addr) (r : Rel) (c' : Nat) (w : World) (hr : Rd w w.heap.size A (ecells l)) (hl : l.length ≤ 1000000)
    (hr' : Rd w w.heap.size A' (us r)) (hl' : r.length ≤ 1000000) :
    Calls Try.prog 6 #[.agg #[.slice A l.length c, v1, v2, v3, v4, v5, v6], .slice A' r.length c'] w (RetRel w.heap.size w (outerL l r)) := by
  have hpl := pairsL_le r
  have hnl := newL_le l.length
  go_enter Try.func6, Try.ntmps6
  go_wp2_with fail
  have hcE0 : (w.alloc (Obj.cells #[Value.slice A l.length c, v1, v2, v3, v4, v5, v6] 28)).cell? ⟨w.heap.size, 0, none⟩ = some (.slice A l.length c) := cell_new _ _ _ 0 _ rfl
  have hbw : Below w.heap.size w (w.alloc (Obj.cells #[Value.slice A l.length c, v1, v2, v3, v4, v5, v6] 28)) := (Below.refl _ _).alloc (Nat.le_refl _) _
  have hsz0 : (w.alloc (Obj.cells #[Value.slice A l.length c, v1, v2, v3, v4, v5, v6] 28)).heap.size = w.heap.size + 1 := by simp
  refine (new_any _ _).mono ?_
  rintro e w1 ⟨A1, c1, rfl, hown1, hb1⟩
  rw [hsz0] at hown1 hb1
  obtain ⟨w0, hW⟩ : ∃ w0 : World, w.alloc (Obj.cells #[Value.slice A l.length c, v1, v2, v3, v4, v5, v6] 28) = w0 := ⟨_, rfl⟩
  rw [hW] at hcE0 hbw hb1 hsz0
  have hsz := Lib.hid hsz0
  clear hsz0 hW
  have hrE := hr.below hbw
  have hrR := hr'.below hbw
  clear hr hr'
  by_cases heq : r.length = l.length
  · have ht : ((r.length : Int) != (l.length : Int)) = false := by rw [heq]; simp
    have hfull := Lib.hid (outerTo_full l r heq)
    have Heq := Lib.hid heq
    clear heq
    go_wp2_with fail
    refine (pairs_any A' r c' _ ((hrR.mono (Nat.le_succ _)).on hb1 (by have := hsz.out; omega)) hl').mono ?_
    rintro e w3 ⟨A3, c3, rfl, hown3, hb3⟩
    have hb03 := below_then hb1 hb3 (by have := hb1.size; have := hsz.out; omega)
    have hown := ownsRow_below hown1 hb3
    have hs3 := hb03.size
    clear hown1 hb1
    go_wp2_with fail
    go_loopw [6, 22] (fun v i wr => ∃ k : Nat, k ≤ (pairsL r).length ∧ i = .int .i64 k ∧ (∃ A2 c2, v = .slice A2 (outerTo l r k).length c2 ∧ wr.ownsRow (w.heap.size + 1) 33 1 (.slice A2 (outerTo l r k).length c2) (outerTo l r k).length (us (outerTo l r k))) ∧ Below w3.heap.size w3 wr)
      (fun _ i _ => (pairsL r).length - (intOf i).toNat)
    case atStart => exact ⟨0, Nat.zero_le _, rfl, ⟨A1, c1, rfl, hown⟩, Below.refl _ _⟩
    case round =>
      obtain ⟨k, hk, rfl, ⟨A2, c2, rfl, hown⟩, hb⟩ := hrel
      have hb0r := below_then hb03 hb (by have := hsz.out; omega)
      have hle2 := outerTo_le l r k
      by_cases hlt : k < (pairsL r).length
      · obtain ⟨x, y, hxy, hx1, hy1⟩ := pairs_range' r k hlt
        have hxl : x < l.length := by have := clean_le' r; have := Heq.out; omega
        have hyl : y < l.length := by have := Heq.out; omega
        have hx0 : (0 : Int) ≤ (x : Int) := by omega
        have hy0 : (0 : Int) ≤ (y : Int) := by omega
        have hx2 : (x : Int) < (l.length : Int) := by omega
        have hy2 : (y : Int) < (l.length : Int) := by omega
        have hy3 := ownsRow_below hown3 hb
        obtain ⟨g, cap, hv, _, hgs⟩ := hy3.form (by omega)
        have hA : A3 = some ⟨g, 0, none⟩ := by injection hv
        subst hA
        clear hv
        have hc1 := hy3.cellAt (k * 2) (by omega)
        have hc2 := hy3.cellAt (k * 2 + 1) (by omega)
        rw [(pcells_get _ k hlt).1, hxy] at hc1
        rw [(pcells_get _ k hlt).2, hxy] at hc2
        dsimp only at hc1 hc2
        have hstep : Hid (outerTo l r (k + 1) = outerStep l (outerTo l r k) ((x : Int), (y : Int))) := by
          unfold Hid; rw [outerTo_succ l r k hlt, hxy]
        have Hxy := Lib.hid hxy
        clear hxy hy3
        have hcEr := (hb0r.cell (p := ⟨w.heap.size, 0, none⟩) (by simp)).trans hcE0
        have hsr := hb0r.size
        have hwr : w.heap.size < wr.heap.size := by have := hsz.out; omega
        obtain ⟨b, off, rfl, hB, hc⟩ := ((hrE.mono (Nat.le_succ _)).below hb0r).at_ev hxl
        have hbr : b < wr.heap.size := by omega
        have ex := (hc x hxl).c0
        have ey := (hc y hyl).c0
        clear hc
        have htest := outerTest_at l x y hxl hyl
        cases hthr : ((l[x]).thread != (l[y]).thread) with
        | true =>
          have hst : Hid (outerStep l (outerTo l r k) ((x : Int), (y : Int)) = putL (outerTo l r k) x y) := by unfold Hid outerStep; rw [htest, hthr]; rfl
          clear htest
          go_wp2_with fail
          go_quiet (fail)
          go_wp2_with fail
          have hown' := ownsRow_drewN (hown.alloc (Obj.cells #[Value.int .i64 x, Value.int .i64 y] 46)) nq
          have hb' := below_drewN (hb.alloc hb.size (Obj.cells #[Value.int .i64 x, Value.int .i64 y] 46)) nq
          refine (put_any A2 (outerTo l r k) c2 x y _ (Rd.of_own hown') (by omega)).mono ?_
          rintro e w6 ⟨A4, c4, rfl, hown6, hb6⟩
          have hbe := below_next hb' hb6
          have hs6 := hb'.size
          clear hown' hb' hb6
          go_wp2_with fail
          go_roundw
          case rel => exact ⟨k + 1, by omega, by go_num, ⟨A4, c4, by rw [hstep.out, hst.out], by rw [hstep.out, hst.out]; exact ownsRow_less hown6 (by have := hsz.out; omega)⟩, hbe⟩
          case measure => simp [intOf]; omega
        | false =>
          have hst : Hid (outerStep l (outerTo l r k) ((x : Int), (y : Int)) = outerTo l r k) := by unfold Hid outerStep; rw [htest, hthr]; rfl
          clear htest
          go_wp2_with fail
          go_quiet (fail)
          go_wp2_with fail
          go_roundw
          case rel => exact ⟨k + 1, by omega, by go_num, ⟨A2, c2, by rw [hstep.out, hst.out], by rw [hstep.out, hst.out]; exact ownsRow_drewN (hown.alloc _) _⟩, below_drewN (hb.alloc hb.size _) _⟩
          case measure => simp [intOf]; omega
      · obtain rfl : k = (pairsL r).length := by omega
        rw [hfull.out] at hown
        go_wp2_with fail
        go_ret
        rw [hfull.out]
        exact RetRel.of (A := A2) (n := (outerL l r).length) (c := c2) (ownsRow_less hown (by omega)) (hbw.trans (hb0r.mono (by omega)))
  · have ht : ((r.length : Int) != (l.length : Int)) = true := by rw [bne_iff_ne]; omega
    have hno : Hid (outerL l r = []) := by unfold Hid outerL; rw [if_neg heq]
    clear heq
    go_wp2_with fail
    go_ret
    rw [hno.out]
    exact RetRel.of (A := some ⟨w1.heap.size, 0, none⟩) (n := 0) (c := 0) (ownsRow_less (World.ownsRow_lit w1 #[] 0 (Nat.le_refl _) (by simp [maxLen]) rfl) (by have := hb1.size; have := hsz.out; omega)) ((hbw.trans (hb1.mono (by omega))).alloc (by have := hb1.size; have := hsz.out; omega) _)

/-- The closure over a place: is it a write of that place? -/
theorem behind1_any (b : Nat) (loc : Int) (w : World) (hb : b < w.heap.size) (hc : w.cell? ⟨b, 0, none⟩ = some (.int .i64 loc)) (x : Ev) (W : World) (hB : Below w.heap.size w W) :
    Calls Try.prog 30 #[.agg x.arr, .pointer (some ⟨b, 0, none⟩)] W fun e w' => e = .returned (.bool (x.kind == 2 && x.loc == loc)) ∧ Below W.heap.size W w' := by
  have hc' := cell_later_ hB hb hc
  have hbW : b < W.heap.size := Nat.lt_of_lt_of_le hb hB.size
  unfold Ev.arr
  cases hk : x.kind == 2 with
  | true =>
    go_enter Try.func30, Try.ntmps30
    go_wp2
    go_ret
    exact ⟨by simp, (Below.refl _ _).alloc (Nat.le_refl _) _⟩
  | false =>
    go_enter Try.func30, Try.ntmps30
    go_wp2
    go_ret
    exact ⟨by simp, (Below.refl _ _).alloc (Nat.le_refl _) _⟩
theorem ent_behind1 : Ent 30 := fun _ _ => by kernel_rfl

def afterTo (w : Int) (co : Rel) (k : Nat) : U32 := (List.range k).foldl (fun m (k : Nat) => if hasI co w k then m ||| bitv k else m) 0
def behindL (l : List Ev) (r : Nat) (w : Int) (co : Rel) : U32 :=
  if w = -1 then maskE (fun x => x.kind == 2 && x.loc == (match l[r]? with | some e => e.loc | none => 0)) l
  else if w < 0 ∨ l.length ≤ w ∨ (match l[w.toNat]? with | some e => e.kind | none => 0) ≠ 2 then 0 else afterTo w co l.length

end Go.Proofs.Ytchhmfgeafnmkaa
