/-
  Registers (package regs): Do, Place, by walks.
-/
import Derived.Test.YtgefngjfpodiiaaRegs
namespace Go.Proofs.Ytgefngjfpodiiaa
open Go.RowKit
set_option linter.unusedVariables false

/-- A load's, or a store's, place. -/
def placeL (f : Fl) (x : In) (locs : Int) : Int := if locs - f.get x.a % locs ≤ x.loc % locs then x.loc % locs - (locs - f.get x.a % locs) else x.loc % locs + f.get x.a % locs

set_option maxHeartbeats 1600000 in
theorem place_any (f : Fl) (x : In) (locs : Int) (w : World) (hk : kindOf x.op ≠ 0) (h1 : 1 ≤ locs) (h3 : locs ≤ 3) (hl : I64 x.loc) (hv : I64 (f.get x.a)) :
    Calls Try.prog 46 #[.agg f.arr, .agg x.arr, .int .i64 locs] w fun e w' => e = .returned (.tuple #[.int .i64 (placeL f x locs), .int .u32 ((f.dep x.a).toNat : Int)]) ∧ Below w.heap.size w w' := by
  have hkind := fun w => kind_any x w
  have hget := fun w => get_any f x.a w
  have htk : (kindOf x.op == 0) = false := by simp [hk]
  have hX : Blk ((w.alloc (.cells f.arr 38)).alloc (.cells x.arr 51)) (w.heap.size + 1) x.arr 51 := by
    have := Blk.new (w.alloc (.cells f.arr 38)) x.arr 51
    simpa using this
  have hF : Blk ((w.alloc (.cells f.arr 38)).alloc (.cells x.arr 51)) w.heap.size f.arr 38 := (Blk.new w f.arr 38).alloc _
  have hb : Below w.heap.size w ((w.alloc (.cells f.arr 38)).alloc (.cells x.arr 51)) := below_alloc ((Below.refl _ _).alloc (Nat.le_refl _) _) _ (Nat.le_refl _)
  have ha0 := Int.emod_nonneg x.loc (show locs ≠ 0 by omega)
  have ha1 := Int.emod_lt_of_pos x.loc (show 0 < locs by omega)
  have hb0 := Int.emod_nonneg (f.get x.a) (show locs ≠ 0 by omega)
  have hb1 := Int.emod_lt_of_pos (f.get x.a) (show 0 < locs by omega)
  have hr1 := fun w => rest_any x.loc locs w hl h1 (by omega)
  have hr2 := fun w => rest_any (f.get x.a) locs w hv h1 (by omega)
  by_cases hge : locs - f.get x.a % locs ≤ x.loc % locs
  · have Hp : Hid (placeL f x locs = x.loc % locs - (locs - f.get x.a % locs)) := if_pos hge
    generalize placeL f x locs = pl at *
    generalize x.loc % locs = am at *
    generalize f.get x.a % locs = bm at *
    generalize f.get x.a = fv at *
    generalize kindOf x.op = ko at *
    clear hl hv
    unfold In.arr Fl.arr at *
    go_enter Try.func46, Try.ntmps46
    go_wp2_with fail
    refine (hkind _).mono ?_
    rintro e w1 ⟨rfl, hb2⟩
    have hX1 := hX.later hb2
    have hF1 := hF.later hb2
    obtain ⟨c0, c1, c2, c3, c4, c5⟩ := Blk.ins (x := x) hX1
    obtain ⟨f0, f1, f2, f3, f4, f5, f6, f7⟩ := Blk.fl (f := f) hF1
    have hltX := hX1.lt
    have hltF := hF1.lt
    go_wp2_with fail
    refine (hget _).mono ?_
    rintro e w2 ⟨rfl, hb3⟩
    have hX2 := hX1.later hb3
    obtain ⟨d0, d1, d2, d3, d4, d5⟩ := Blk.ins (x := x) hX2
    have hbe := below_next (below_next hb hb2) hb3
    clear c0 c1 c2 c3 c4 c5 f0 f1 f2 f3 f4 f5 f6 f7 hb2 hb3 hX1 hF1 hX hF hkind hget hltF
    go_wp2_with fail
    refine (hr1 _).mono ?_
    rintro e w3 ⟨rfl, rfl⟩
    clear hr1
    go_wp2_with fail
    refine (hr2 _).mono ?_
    rintro e w4 ⟨rfl, rfl⟩
    clear hr2
    go_wp2_with fail
    exact bodyPost_ret (results_tmp2 Try.results46 _ _ _) rfl ⟨by rw [Hp.out]; rfl, hbe⟩
  · have Hp : Hid (placeL f x locs = x.loc % locs + f.get x.a % locs) := if_neg hge
    generalize placeL f x locs = pl at *
    generalize x.loc % locs = am at *
    generalize f.get x.a % locs = bm at *
    generalize f.get x.a = fv at *
    generalize kindOf x.op = ko at *
    clear hl hv
    unfold In.arr Fl.arr at *
    go_enter Try.func46, Try.ntmps46
    go_wp2_with fail
    refine (hkind _).mono ?_
    rintro e w1 ⟨rfl, hb2⟩
    have hX1 := hX.later hb2
    have hF1 := hF.later hb2
    obtain ⟨c0, c1, c2, c3, c4, c5⟩ := Blk.ins (x := x) hX1
    obtain ⟨f0, f1, f2, f3, f4, f5, f6, f7⟩ := Blk.fl (f := f) hF1
    have hltX := hX1.lt
    have hltF := hF1.lt
    go_wp2_with fail
    refine (hget _).mono ?_
    rintro e w2 ⟨rfl, hb3⟩
    have hX2 := hX1.later hb3
    obtain ⟨d0, d1, d2, d3, d4, d5⟩ := Blk.ins (x := x) hX2
    have hbe := below_next (below_next hb hb2) hb3
    clear c0 c1 c2 c3 c4 c5 f0 f1 f2 f3 f4 f5 f6 f7 hb2 hb3 hX1 hF1 hX hF hkind hget hltF
    go_wp2_with fail
    refine (hr1 _).mono ?_
    rintro e w3 ⟨rfl, rfl⟩
    clear hr1
    go_wp2_with fail
    refine (hr2 _).mono ?_
    rintro e w4 ⟨rfl, rfl⟩
    clear hr2
    go_wp2_with fail
    exact bodyPost_ret (results_tmp2 Try.results46 _ _ _) rfl ⟨by rw [Hp.out]; rfl, hbe⟩

/-- An instruction of registers alone. -/
def doI (f : Fl) (x : In) : Fl :=
  if x.op = 1 then f.set x.d x.imm 0
  else if x.op = 2 then f.set x.d (addI (f.get x.a) (f.get x.b)) (f.dep x.a ||| f.dep x.b)
  else if x.op = 3 then f.set x.d (bits .xor .i64 (f.get x.a) (f.get x.b)) (f.dep x.a ||| f.dep x.b)
  else if x.op = 4 then f.set x.d (bits .and .i64 (f.get x.a) (f.get x.b)) (f.dep x.a ||| f.dep x.b)
  else f

theorem set_zero (f : Fl) (n v : Int) (w : World) : Calls Try.prog 48 #[.agg f.arr, .int .i64 n, .int .i64 v, .int .u32 0] w fun e w' => e = .returned (.agg (f.set n v 0).arr) ∧ Below w.heap.size w w' := set_any f n v 0 w

/-- Eight stores: a whole file of registers. -/
def setFl (w : World) (b o : Nat) (f : Fl) : World :=
  (((((((w.setCell ⟨b, o, none⟩ (.int .i64 f.v0)).setCell ⟨b, o + 1, none⟩ (.int .i64 f.v1)).setCell ⟨b, o + 2, none⟩ (.int .i64 f.v2)).setCell ⟨b, o + 3, none⟩ (.int .i64 f.v3)).setCell ⟨b, o + 4, none⟩ (.int .u32 (f.p0.toNat : Int))).setCell
    ⟨b, o + 5, none⟩ (.int .u32 (f.p1.toNat : Int))).setCell ⟨b, o + 6, none⟩ (.int .u32 (f.p2.toNat : Int))).setCell ⟨b, o + 7, none⟩ (.int .u32 (f.p3.toNat : Int))
theorem setFl_below {B : Nat} {a w : World} (h : Below B a w) {b : Nat} (hb : B ≤ b) (o : Nat) (f : Fl) : Below B a (setFl w b o f) := by
  unfold setFl
  exact (((((((h.setCell hb _).setCell hb _).setCell hb _).setCell hb _).setCell hb _).setCell hb _).setCell hb _).setCell hb _
theorem setFl_zero {w : World} {b : Nat} {g f : Fl} {t : TypeId} (h : Blk w b g.arr t) : Blk (setFl w b 0 f) b f.arr t := by
  have h0 : Blk w b #[.int .i64 g.v0, .int .i64 g.v1, .int .i64 g.v2, .int .i64 g.v3, .int .u32 (g.p0.toNat : Int), .int .u32 (g.p1.toNat : Int), .int .u32 (g.p2.toNat : Int), .int .u32 (g.p3.toNat : Int)] t := h
  have h1 : Blk _ b #[.int .i64 f.v0, .int .i64 g.v1, .int .i64 g.v2, .int .i64 g.v3, .int .u32 (g.p0.toNat : Int), .int .u32 (g.p1.toNat : Int), .int .u32 (g.p2.toNat : Int), .int .u32 (g.p3.toNat : Int)] t := h0.set 0 _
  have h2 : Blk _ b #[.int .i64 f.v0, .int .i64 f.v1, .int .i64 g.v2, .int .i64 g.v3, .int .u32 (g.p0.toNat : Int), .int .u32 (g.p1.toNat : Int), .int .u32 (g.p2.toNat : Int), .int .u32 (g.p3.toNat : Int)] t := h1.set 1 _
  have h3 : Blk _ b #[.int .i64 f.v0, .int .i64 f.v1, .int .i64 f.v2, .int .i64 g.v3, .int .u32 (g.p0.toNat : Int), .int .u32 (g.p1.toNat : Int), .int .u32 (g.p2.toNat : Int), .int .u32 (g.p3.toNat : Int)] t := h2.set 2 _
  have h4 : Blk _ b #[.int .i64 f.v0, .int .i64 f.v1, .int .i64 f.v2, .int .i64 f.v3, .int .u32 (g.p0.toNat : Int), .int .u32 (g.p1.toNat : Int), .int .u32 (g.p2.toNat : Int), .int .u32 (g.p3.toNat : Int)] t := h3.set 3 _
  have h5 : Blk _ b #[.int .i64 f.v0, .int .i64 f.v1, .int .i64 f.v2, .int .i64 f.v3, .int .u32 (f.p0.toNat : Int), .int .u32 (g.p1.toNat : Int), .int .u32 (g.p2.toNat : Int), .int .u32 (g.p3.toNat : Int)] t := h4.set 4 _
  have h6 : Blk _ b #[.int .i64 f.v0, .int .i64 f.v1, .int .i64 f.v2, .int .i64 f.v3, .int .u32 (f.p0.toNat : Int), .int .u32 (f.p1.toNat : Int), .int .u32 (g.p2.toNat : Int), .int .u32 (g.p3.toNat : Int)] t := h5.set 5 _
  have h7 : Blk _ b #[.int .i64 f.v0, .int .i64 f.v1, .int .i64 f.v2, .int .i64 f.v3, .int .u32 (f.p0.toNat : Int), .int .u32 (f.p1.toNat : Int), .int .u32 (f.p2.toNat : Int), .int .u32 (g.p3.toNat : Int)] t := h6.set 6 _
  have h8 : Blk _ b #[.int .i64 f.v0, .int .i64 f.v1, .int .i64 f.v2, .int .i64 f.v3, .int .u32 (f.p0.toNat : Int), .int .u32 (f.p1.toNat : Int), .int .u32 (f.p2.toNat : Int), .int .u32 (f.p3.toNat : Int)] t := h7.set 7 _
  exact h8

/-- A call that hands back a file of registers, from a block of its own. -/
theorem ret_file {P : Program} {fn : Func} {R : Ending → World → Prop} {a : Act} {W : World} {b : Nat} {f : Fl} {t : TypeId} (hres : ∀ W, Blk W b f.arr t → (results fn a.tmps).run P W = .ok (.agg f.arr) W)
    (hB : Blk W b f.arr t) (hd : a.defers = []) (hR : R (.returned (.agg f.arr)) W) : bodyPost P fn R .ret a W := bodyPost_ret (hres W hB) hd hR

set_option maxHeartbeats 3200000 in
theorem do_any (f : Fl) (x : In) (w : World) :
    Calls Try.prog 51 #[.agg f.arr, .agg x.arr] w fun e w' => e = .returned (.agg (doI f x).arr) ∧ Below w.heap.size w w' := by
  have hset := fun n v d w => set_any f n v d w
  have hset0 := fun w => set_zero f x.d x.imm w
  have hgA := fun w => get_any f x.a w
  have hgB := fun w => get_any f x.b w
  have hmk := fun w => makes_any x.op w
  have hb : Below w.heap.size w (((w.alloc (.cells f.arr 38)).alloc (.cells x.arr 51)).alloc (.cells (Fl.mk 0 0 0 0 0 0 0 0).arr 38)) := below_alloc (below_alloc ((Below.refl _ _).alloc (Nat.le_refl _) _) _ (Nat.le_refl _)) _ (Nat.le_refl _)
  have hF : Blk (((w.alloc (.cells f.arr 38)).alloc (.cells x.arr 51)).alloc (.cells (Fl.mk 0 0 0 0 0 0 0 0).arr 38)) w.heap.size f.arr 38 := ((Blk.new w f.arr 38).alloc _).alloc _
  have hX : Blk (((w.alloc (.cells f.arr 38)).alloc (.cells x.arr 51)).alloc (.cells (Fl.mk 0 0 0 0 0 0 0 0).arr 38)) (w.heap.size + 1) x.arr 51 := by
    have := (Blk.new (w.alloc (.cells f.arr 38)) x.arr 51).alloc (.cells (Fl.mk 0 0 0 0 0 0 0 0).arr 38)
    simpa using this
  have hO : Blk (((w.alloc (.cells f.arr 38)).alloc (.cells x.arr 51)).alloc (.cells (Fl.mk 0 0 0 0 0 0 0 0).arr 38)) (w.heap.size + 1 + 1) (Fl.mk 0 0 0 0 0 0 0 0).arr 38 := by
    have := Blk.new ((w.alloc (.cells f.arr 38)).alloc (.cells x.arr 51)) (Fl.mk 0 0 0 0 0 0 0 0).arr 38
    simpa using this
  by_cases h1 : x.op = 1
  · have Hd : Hid (doI f x = f.set x.d x.imm 0) := by unfold Hid doI; rw [if_pos h1]
    have t1 : (x.op == 1) = true := by simp [h1]
    clear h1 hset hgA hgB hmk
    generalize f.set x.d x.imm 0 = g at *
    unfold In.arr at *
    unfold Fl.arr at *
    go_enter Try.func51, Try.ntmps51
    go_wp2_with fail
    refine (hset0 _).mono ?_
    rintro e w1 ⟨rfl, hb1⟩
    have hO1 := hO.later hb1
    have hbe := below_next hb hb1
    have hfr := hO1.frozen
    obtain ⟨o0, o1, o2, o3, o4, o5, o6, o7⟩ := Blk.fl (f := Fl.mk 0 0 0 0 0 0 0 0) hO1
    go_wp2_with fail
    have hG := setFl_zero (f := g) (g := Fl.mk 0 0 0 0 0 0 0 0) hO1
    exact ret_file (f := g) (t := 38) (fun W hB => by
      obtain ⟨q0, q1, q2, q3, q4, q5, q6, q7⟩ := Blk.fl hB
      simp [results, Try.results51, go_sem, Fl.arr, q0, q1, q2, q3, q4, q5, q6, q7]) hG rfl ⟨by rw [Hd.out]; rfl, setFl_below hbe (by omega) 0 g⟩
  have t1 : (x.op == 1) = false := by simp [h1]
  have hbor := bits_or (f.dep x.a) (f.dep x.b)
  have hset1 := fun v w => set_any f x.d v (f.dep x.a ||| f.dep x.b) w
  obtain ⟨va, hva⟩ : ∃ v, f.get x.a = v := ⟨_, rfl⟩
  obtain ⟨vb, hvb⟩ : ∃ v, f.get x.b = v := ⟨_, rfl⟩
  by_cases h2 : x.op = 2
  · have Hd : Hid (doI f x = f.set x.d (addI va vb) (f.dep x.a ||| f.dep x.b)) := by unfold Hid doI; rw [if_neg h1, if_pos h2, hva, hvb]
    have hmv : makesV x.op = .func (.func 56) #[] #[] := by unfold makesV; rw [if_pos h2]
    rw [hmv] at hmk
    have hq : ∀ w : World, (binOp .eql 90 (.func (.func 56) #[] #[]) .nilFunc).run Try.prog w = .ok (.bool false) w := fun w => by kernel_rfl
    have hset2 := fun w => hset1 (addI va vb) w
    rw [hva] at hgA
    rw [hvb] at hgB
    clear h1 h2 hset hset0 hset1 hmv hva hvb
    generalize f.set x.d (addI va vb) (f.dep x.a ||| f.dep x.b) = g at *
    unfold In.arr at *
    unfold Fl.arr at *
    go_enter Try.func51, Try.ntmps51
    go_wp2_with fail
    refine (hmk _).mono ?_
    rintro e w1 ⟨rfl, hb1⟩
    have hF1 := hF.later hb1
    have hX1 := hX.later hb1
    have hO1 := hO.later hb1
    have hbe1 := below_next hb hb1
    clear hF hX hO hb hb1 hmk
    have hlF := hF1.lt
    have hlX := hX1.lt
    obtain ⟨f0, f1, f2, f3, f4, f5, f6, f7⟩ := Blk.fl (f := f) hF1
    obtain ⟨c0, c1, c2, c3, c4, c5⟩ := Blk.ins (x := x) hX1
    go_wp2_with fail
    refine (hgA _).mono ?_
    rintro e w2 ⟨rfl, hb2⟩
    have hF2 := hF1.later hb2
    have hX2 := hX1.later hb2
    have hO2 := hO1.later hb2
    have hbe2 := below_next hbe1 hb2
    clear hF1 hX1 hO1 hbe1 hb2 hgA f0 f1 f2 f3 f4 f5 f6 f7 c0 c1 c2 c3 c4 c5 hlF hlX
    obtain ⟨f0, f1, f2, f3, f4, f5, f6, f7⟩ := Blk.fl (f := f) hF2
    obtain ⟨c0, c1, c2, c3, c4, c5⟩ := Blk.ins (x := x) hX2
    go_wp2_with fail
    refine (hgB _).mono ?_
    rintro e w3 ⟨rfl, hb3⟩
    have hF3 := hF2.later hb3
    have hX3 := hX2.later hb3
    have hO3 := hO2.later hb3
    have hbe3 := below_next hbe2 hb3
    clear hF2 hX2 hO2 hbe2 hb3 hgB f0 f1 f2 f3 f4 f5 f6 f7 c0 c1 c2 c3 c4 c5
    obtain ⟨f0, f1, f2, f3, f4, f5, f6, f7⟩ := Blk.fl (f := f) hF3
    obtain ⟨c0, c1, c2, c3, c4, c5⟩ := Blk.ins (x := x) hX3
    go_wp2_with fail
    refine region_tail 10 (by kernel_rfl) (by kernel_rfl) ?_
    simp only [List.take_succ_cons, List.take_zero, List.drop_succ_cons, List.drop_zero]
    repeat (first | still_step | still_call (same_flip (makes1_any _ _ _)))
    refine wpStill_nil ?_
    go_wp2_with fail
    refine (hset2 _).mono ?_
    rintro e w4 ⟨rfl, hb4⟩
    have hO4 := (show Blk w3.drew _ _ _ from hO3).later hb4
    have hbe := below_next hbe3.drew hb4
    have hfr := hO4.frozen
    obtain ⟨o0, o1, o2, o3, o4, o5, o6, o7⟩ := Blk.fl (f := Fl.mk 0 0 0 0 0 0 0 0) hO4
    clear hF3 hX3 hO3 hbe3 f0 f1 f2 f3 f4 f5 f6 f7 c0 c1 c2 c3 c4 c5
    go_wp2_with fail
    have hG := setFl_zero (f := g) (g := Fl.mk 0 0 0 0 0 0 0 0) hO4
    exact ret_file (f := g) (t := 38) (fun W hB => by
      obtain ⟨q0, q1, q2, q3, q4, q5, q6, q7⟩ := Blk.fl hB
      simp [results, Try.results51, go_sem, Fl.arr, q0, q1, q2, q3, q4, q5, q6, q7]) hG rfl ⟨by rw [Hd.out]; rfl, setFl_below hbe (by omega) 0 g⟩
  by_cases h3 : x.op = 3
  · have Hd : Hid (doI f x = f.set x.d (bits .xor .i64 va vb) (f.dep x.a ||| f.dep x.b)) := by unfold Hid doI; rw [if_neg h1, if_neg h2, if_pos h3, hva, hvb]
    have hmv : makesV x.op = .func (.func 57) #[] #[] := by unfold makesV; rw [if_neg h2, if_pos h3]
    rw [hmv] at hmk
    have hq : ∀ w : World, (binOp .eql 90 (.func (.func 57) #[] #[]) .nilFunc).run Try.prog w = .ok (.bool false) w := fun w => by kernel_rfl
    have hset2 := fun w => hset1 (bits .xor .i64 va vb) w
    rw [hva] at hgA
    rw [hvb] at hgB
    clear h1 h2 h3 hset hset0 hset1 hmv hva hvb
    generalize f.set x.d (bits .xor .i64 va vb) (f.dep x.a ||| f.dep x.b) = g at *
    unfold In.arr at *
    unfold Fl.arr at *
    go_enter Try.func51, Try.ntmps51
    go_wp2_with fail
    refine (hmk _).mono ?_
    rintro e w1 ⟨rfl, hb1⟩
    have hF1 := hF.later hb1
    have hX1 := hX.later hb1
    have hO1 := hO.later hb1
    have hbe1 := below_next hb hb1
    clear hF hX hO hb hb1 hmk
    have hlF := hF1.lt
    have hlX := hX1.lt
    obtain ⟨f0, f1, f2, f3, f4, f5, f6, f7⟩ := Blk.fl (f := f) hF1
    obtain ⟨c0, c1, c2, c3, c4, c5⟩ := Blk.ins (x := x) hX1
    go_wp2_with fail
    refine (hgA _).mono ?_
    rintro e w2 ⟨rfl, hb2⟩
    have hF2 := hF1.later hb2
    have hX2 := hX1.later hb2
    have hO2 := hO1.later hb2
    have hbe2 := below_next hbe1 hb2
    clear hF1 hX1 hO1 hbe1 hb2 hgA f0 f1 f2 f3 f4 f5 f6 f7 c0 c1 c2 c3 c4 c5 hlF hlX
    obtain ⟨f0, f1, f2, f3, f4, f5, f6, f7⟩ := Blk.fl (f := f) hF2
    obtain ⟨c0, c1, c2, c3, c4, c5⟩ := Blk.ins (x := x) hX2
    go_wp2_with fail
    refine (hgB _).mono ?_
    rintro e w3 ⟨rfl, hb3⟩
    have hF3 := hF2.later hb3
    have hX3 := hX2.later hb3
    have hO3 := hO2.later hb3
    have hbe3 := below_next hbe2 hb3
    clear hF2 hX2 hO2 hbe2 hb3 hgB f0 f1 f2 f3 f4 f5 f6 f7 c0 c1 c2 c3 c4 c5
    obtain ⟨f0, f1, f2, f3, f4, f5, f6, f7⟩ := Blk.fl (f := f) hF3
    obtain ⟨c0, c1, c2, c3, c4, c5⟩ := Blk.ins (x := x) hX3
    go_wp2_with fail
    refine region_tail 10 (by kernel_rfl) (by kernel_rfl) ?_
    simp only [List.take_succ_cons, List.take_zero, List.drop_succ_cons, List.drop_zero]
    repeat (first | still_step | still_call (same_flip (makes2_any _ _ _)))
    refine wpStill_nil ?_
    go_wp2_with fail
    refine (hset2 _).mono ?_
    rintro e w4 ⟨rfl, hb4⟩
    have hO4 := (show Blk w3.drew _ _ _ from hO3).later hb4
    have hbe := below_next hbe3.drew hb4
    have hfr := hO4.frozen
    obtain ⟨o0, o1, o2, o3, o4, o5, o6, o7⟩ := Blk.fl (f := Fl.mk 0 0 0 0 0 0 0 0) hO4
    clear hF3 hX3 hO3 hbe3 f0 f1 f2 f3 f4 f5 f6 f7 c0 c1 c2 c3 c4 c5
    go_wp2_with fail
    have hG := setFl_zero (f := g) (g := Fl.mk 0 0 0 0 0 0 0 0) hO4
    exact ret_file (f := g) (t := 38) (fun W hB => by
      obtain ⟨q0, q1, q2, q3, q4, q5, q6, q7⟩ := Blk.fl hB
      simp [results, Try.results51, go_sem, Fl.arr, q0, q1, q2, q3, q4, q5, q6, q7]) hG rfl ⟨by rw [Hd.out]; rfl, setFl_below hbe (by omega) 0 g⟩
  by_cases h4 : x.op = 4
  · have Hd : Hid (doI f x = f.set x.d (bits .and .i64 va vb) (f.dep x.a ||| f.dep x.b)) := by unfold Hid doI; rw [if_neg h1, if_neg h2, if_neg h3, if_pos h4, hva, hvb]
    have hmv : makesV x.op = .func (.func 58) #[] #[] := by unfold makesV; rw [if_neg h2, if_neg h3, if_pos h4]
    rw [hmv] at hmk
    have hq : ∀ w : World, (binOp .eql 90 (.func (.func 58) #[] #[]) .nilFunc).run Try.prog w = .ok (.bool false) w := fun w => by kernel_rfl
    have hset2 := fun w => hset1 (bits .and .i64 va vb) w
    rw [hva] at hgA
    rw [hvb] at hgB
    clear h1 h2 h3 h4 hset hset0 hset1 hmv hva hvb
    generalize f.set x.d (bits .and .i64 va vb) (f.dep x.a ||| f.dep x.b) = g at *
    unfold In.arr at *
    unfold Fl.arr at *
    go_enter Try.func51, Try.ntmps51
    go_wp2_with fail
    refine (hmk _).mono ?_
    rintro e w1 ⟨rfl, hb1⟩
    have hF1 := hF.later hb1
    have hX1 := hX.later hb1
    have hO1 := hO.later hb1
    have hbe1 := below_next hb hb1
    clear hF hX hO hb hb1 hmk
    have hlF := hF1.lt
    have hlX := hX1.lt
    obtain ⟨f0, f1, f2, f3, f4, f5, f6, f7⟩ := Blk.fl (f := f) hF1
    obtain ⟨c0, c1, c2, c3, c4, c5⟩ := Blk.ins (x := x) hX1
    go_wp2_with fail
    refine (hgA _).mono ?_
    rintro e w2 ⟨rfl, hb2⟩
    have hF2 := hF1.later hb2
    have hX2 := hX1.later hb2
    have hO2 := hO1.later hb2
    have hbe2 := below_next hbe1 hb2
    clear hF1 hX1 hO1 hbe1 hb2 hgA f0 f1 f2 f3 f4 f5 f6 f7 c0 c1 c2 c3 c4 c5 hlF hlX
    obtain ⟨f0, f1, f2, f3, f4, f5, f6, f7⟩ := Blk.fl (f := f) hF2
    obtain ⟨c0, c1, c2, c3, c4, c5⟩ := Blk.ins (x := x) hX2
    go_wp2_with fail
    refine (hgB _).mono ?_
    rintro e w3 ⟨rfl, hb3⟩
    have hF3 := hF2.later hb3
    have hX3 := hX2.later hb3
    have hO3 := hO2.later hb3
    have hbe3 := below_next hbe2 hb3
    clear hF2 hX2 hO2 hbe2 hb3 hgB f0 f1 f2 f3 f4 f5 f6 f7 c0 c1 c2 c3 c4 c5
    obtain ⟨f0, f1, f2, f3, f4, f5, f6, f7⟩ := Blk.fl (f := f) hF3
    obtain ⟨c0, c1, c2, c3, c4, c5⟩ := Blk.ins (x := x) hX3
    go_wp2_with fail
    refine region_tail 10 (by kernel_rfl) (by kernel_rfl) ?_
    simp only [List.take_succ_cons, List.take_zero, List.drop_succ_cons, List.drop_zero]
    repeat (first | still_step | still_call (same_flip (makes3_any _ _ _)))
    refine wpStill_nil ?_
    go_wp2_with fail
    refine (hset2 _).mono ?_
    rintro e w4 ⟨rfl, hb4⟩
    have hO4 := (show Blk w3.drew _ _ _ from hO3).later hb4
    have hbe := below_next hbe3.drew hb4
    have hfr := hO4.frozen
    obtain ⟨o0, o1, o2, o3, o4, o5, o6, o7⟩ := Blk.fl (f := Fl.mk 0 0 0 0 0 0 0 0) hO4
    clear hF3 hX3 hO3 hbe3 f0 f1 f2 f3 f4 f5 f6 f7 c0 c1 c2 c3 c4 c5
    go_wp2_with fail
    have hG := setFl_zero (f := g) (g := Fl.mk 0 0 0 0 0 0 0 0) hO4
    exact ret_file (f := g) (t := 38) (fun W hB => by
      obtain ⟨q0, q1, q2, q3, q4, q5, q6, q7⟩ := Blk.fl hB
      simp [results, Try.results51, go_sem, Fl.arr, q0, q1, q2, q3, q4, q5, q6, q7]) hG rfl ⟨by rw [Hd.out]; rfl, setFl_below hbe (by omega) 0 g⟩
  have Hd : Hid (doI f x = f) := by unfold Hid doI; rw [if_neg h1, if_neg h2, if_neg h3, if_neg h4]
  have hmv : makesV x.op = .nilFunc := by unfold makesV; rw [if_neg h2, if_neg h3, if_neg h4]
  rw [hmv] at hmk
  have hq : ∀ w : World, (binOp .eql 90 .nilFunc .nilFunc).run Try.prog w = .ok (.bool true) w := fun w => by kernel_rfl
  clear h1 h2 h3 h4 hset hset0 hset1 hmv hva hvb hgA hgB
  unfold In.arr at *
  unfold Fl.arr at *
  go_enter Try.func51, Try.ntmps51
  go_wp2_with fail
  refine (hmk _).mono ?_
  rintro e w1 ⟨rfl, hb1⟩
  have hF1 := hF.later hb1
  have hX1 := hX.later hb1
  have hO1 := hO.later hb1
  have hbe := below_next hb hb1
  clear hF hX hO hb hb1 hmk
  have hlF := hF1.lt
  have hlX := hX1.lt
  obtain ⟨f0, f1, f2, f3, f4, f5, f6, f7⟩ := Blk.fl (f := f) hF1
  obtain ⟨c0, c1, c2, c3, c4, c5⟩ := Blk.ins (x := x) hX1
  have hfr := hO1.frozen
  obtain ⟨o0, o1, o2, o3, o4, o5, o6, o7⟩ := Blk.fl (f := Fl.mk 0 0 0 0 0 0 0 0) hO1
  go_wp2_with fail
  have hG := setFl_zero (f := f) (g := Fl.mk 0 0 0 0 0 0 0 0) hO1
  exact ret_file (f := f) (t := 38) (fun W hB => by
    obtain ⟨q0, q1, q2, q3, q4, q5, q6, q7⟩ := Blk.fl hB
    simp [results, Try.results51, go_sem, Fl.arr, q0, q1, q2, q3, q4, q5, q6, q7]) hG rfl ⟨by rw [Hd.out]; rfl, setFl_below hbe (by omega) 0 f⟩

end Go.Proofs.Ytgefngjfpodiiaa
