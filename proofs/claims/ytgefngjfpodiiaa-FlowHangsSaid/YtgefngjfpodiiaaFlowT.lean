/-
  A thread's branches and stores (flow's branch, store, plain), by walks.
-/
import Derived.Test.YtgefngjfpodiiaaFlowS
namespace Go.Proofs.Ytgefngjfpodiiaa
open Go.RowKit
set_option linter.unusedVariables false

theorem RunAt.set1 {w : World} {K : Nat → Prop} {g : Nat} {c : Cst} {s s' : St} {E A D C P : Value} (hB : Blk w g (rarr E A D C P c s) 57) (hR : Rws w K g (rrows E A D C P s)) (i : Nat) (v : Value)
    (h1 : rarr E A D C P c s' = (rarr E A D C P c s).setIfInBounds i v) (h2 : rrows E A D C P s' = rrows E A D C P s) : Blk (w.setCell ⟨g, i, none⟩ v) g (rarr E A D C P c s') 57 ∧ Rws (w.setCell ⟨g, i, none⟩ v) K g (rrows E A D C P s') :=
  ⟨h1 ▸ hB.set i v, h2 ▸ hR.set i v⟩

def St.branch (s : St) (x : In) : St := { s with cur := s.cur ||| s.f.dep x.a, skip := if (s.f.get x.a == 0) = (x.op == 13) then x.imm else s.skip }

set_option maxHeartbeats 3200000 in
theorem branch_any (K : Nat → Prop) (g : Nat) (c : Cst) (s : St) (x : In) (w : World) (h : RunAt w K g c s) :
    Calls Try.prog 34 #[.pointer (some ⟨g, 0, none⟩), .agg x.arr] w (Turns K g c (s.branch x) w) := by
  have hk := (Kp.refl K w).alloc (fun k hk => (h.kg k hk).2) (.cells x.arr 51)
  have hnk := h.nk
  obtain ⟨E, A, D, C, P, hB0, hR0⟩ := h
  have hx0 := Blk.new w x.arr 51
  have hB := hB0.alloc (.cells x.arr 51)
  have hR := hR0.alloc (.cells x.arr 51)
  have hgl := hB0.lt
  have hgx : g ≠ w.heap.size := by omega
  obtain ⟨q0, q1, q2, q3, q4, q5, q6, q7⟩ := hB.rfl_
  obtain ⟨c0, c1, c2, c3, c4, c5⟩ := Blk.ins (x := x) hx0
  have hget := fun w => get_any s.f x.a w
  have hbor := bits_or s.cur (s.f.dep x.a)
  have Hs := Lib.hid (show s.branch x = { s with cur := s.cur ||| s.f.dep x.a, skip := if (s.f.get x.a == 0) = (x.op == 13) then x.imm else s.skip } from rfl)
  generalize s.f.get x.a = va at *
  generalize s.f.dep x.a = dp at *
  clear hB0 hR0
  unfold In.arr at *
  rw [show s.f.arr = #[.int .i64 s.f.v0, .int .i64 s.f.v1, .int .i64 s.f.v2, .int .i64 s.f.v3, .int .u32 (s.f.p0.toNat : Int), .int .u32 (s.f.p1.toNat : Int), .int .u32 (s.f.p2.toNat : Int), .int .u32 (s.f.p3.toNat : Int)] from rfl] at hget
  go_enter Try.func34, Try.ntmps34
  go_wp2_with fail
  go_region_held3 (fun w' => w'.cell? ⟨g, 5, none⟩ = some (.int .i64 s.f.v0) ∧ w'.cell? ⟨g, 6, none⟩ = some (.int .i64 s.f.v1) ∧ w'.cell? ⟨g, 7, none⟩ = some (.int .i64 s.f.v2) ∧ w'.cell? ⟨g, 8, none⟩ = some (.int .i64 s.f.v3) ∧ w'.cell? ⟨g, 9, none⟩ = some (.int .u32 (s.f.p0.toNat : Int)) ∧ w'.cell? ⟨g, 10, none⟩ = some (.int .u32 (s.f.p1.toNat : Int)) ∧ w'.cell? ⟨g, 11, none⟩ = some (.int .u32 (s.f.p2.toNat : Int)) ∧ w'.cell? ⟨g, 12, none⟩ = some (.int .u32 (s.f.p3.toNat : Int)) ∧ w'.cell? ⟨w.heap.size, 2, none⟩ = some (.int .i64 x.a))
    (first | exact ⟨q0, q1, q2, q3, q4, q5, q6, q7, c2⟩)
    (first
      | (go_at_call 50; refine (hget _).mono ?_; rintro e w2 ⟨rfl, hb2⟩; have hB2 := (show Blk (World.drew _) _ _ _ from hB).later hb2; have hx2 := (show Blk (World.drew _) _ _ _ from hx0).later hb2; obtain ⟨q0, q1, q2, q3, q4, q5, q6, q7⟩ := hB2.rfl_; obtain ⟨c0, c1, c2, c3, c4, c5⟩ := Blk.ins (x := x) hx2))
  have hR2 := hR.drew.later hb2
  have hk2 := hk.drew.trans (Kp.of_below hb2 (fun k hk => (hR.kg k hk).2))
  have e19 := hB2.cell 19 (.int .u32 (s.cur.toNat : Int)) rfl
  have e21 := hB2.cell 21 (.int .i64 s.skip) rfl
  have hfz := hB2.frozen
  clear q0 q1 q2 q3 q4 q5 q6 q7 hb2 hB hR hk hget
  obtain ⟨tz, htz⟩ : ∃ b, (va == 0) = b := ⟨_, rfl⟩
  obtain ⟨tq, hto⟩ : ∃ b, (x.op == 13) = b := ⟨_, rfl⟩
  have hA := RunAt.set1 (s' := { s with cur := s.cur ||| dp }) hB2 hR2 19 (.int .u32 ((s.cur ||| dp).toNat : Int)) rfl rfl
  by_cases hq : tz = tq
  · have Hb : Hid (s.branch x = { s with cur := s.cur ||| dp, skip := x.imm }) := by unfold Hid; rw [Hs.out, htz, hto, if_pos hq]
    subst hq
    have hA2 := RunAt.set1 (s' := { s with cur := s.cur ||| dp, skip := x.imm }) hA.1 hA.2 21 (.int .i64 x.imm) rfl rfl
    cases tz
    all_goals
      go_wp2_with fail
      refine bodyPost_end (v := .tuple #[]) (by simp [results, Try.results34]) rfl ⟨rfl, ?_, ?_⟩
      · rw [Hb.out]
        exact ⟨E, A, D, C, P, hA2⟩
      · exact (hk2.set hnk _ _).set hnk _ _
  · have Hb : Hid (s.branch x = { s with cur := s.cur ||| dp }) := by unfold Hid; rw [Hs.out, htz, hto, if_neg hq]
    cases tz <;> cases tq
    all_goals first
      | exact absurd rfl hq
      | skip
    all_goals
      go_wp2_with fail
      refine bodyPost_end (v := .tuple #[]) (by simp [results, Try.results34]) rfl ⟨rfl, ?_, ?_⟩
      · rw [Hb.out]
        exact ⟨E, A, D, C, P, hA⟩
      · exact hk2.set hnk _ _

/-- The numbers that a place is made of are numbers of 64 bits, and the thread's places are few. -/
structure Fit (c : Cst) (s : St) (x : In) : Prop where
  l1 : 1 ≤ c.locs
  l3 : c.locs ≤ 3
  k : kindOf x.op ≠ 0
  xl : I64 x.loc
  a : I64 (s.f.get x.a)

def storeEv (c : Cst) (s : St) (x : In) (pr : Int) : Ev := ⟨0, 2, placeL s.f x c.locs, s.f.get x.b, false, x.op == 8, decide (0 ≤ pr)⟩
def St.store (s : St) (c : Cst) (x : In) (pr : Int) : St := s.push (storeEv c s x pr) (s.f.dep x.a) (s.f.dep x.b) pr

set_option maxHeartbeats 3200000 in
theorem store_any (K : Nat → Prop) (g : Nat) (c : Cst) (s : St) (x : In) (pr : Int) (w : World) (h : RunAt w K g c s) (hf : Few s) (hx : Fit c s x) :
    Calls Try.prog 49 #[.pointer (some ⟨g, 0, none⟩), .agg x.arr, .int .i64 pr] w (Turns K g c (s.store c x pr) w) := by
  have hk := (Kp.refl K w).alloc (fun k hk => (h.kg k hk).2) (.cells x.arr 51)
  obtain ⟨E, A, D, C, P, hB0, hR0⟩ := h
  have hx0 := Blk.new w x.arr 51
  have hB := hB0.alloc (.cells x.arr 51)
  have hR := hR0.alloc (.cells x.arr 51)
  have hgl := hB0.lt
  have hgx : g ≠ w.heap.size := by omega
  obtain ⟨q0, q1, q2, q3, q4, q5, q6, q7⟩ := hB.rfl_
  have q16 := hB.cell 16 (.int .i64 c.locs) rfl
  obtain ⟨c0, c1, c2, c3, c4, c5⟩ := Blk.ins (x := x) hx0
  have hplace := fun w => place_any s.f x c.locs w hx.k hx.l1 hx.l3 hx.xl hx.a
  have hget := fun w => get_any s.f x.b w
  have Hs := Lib.hid (show s.store c x pr = s.push ⟨0, 2, placeL s.f x c.locs, s.f.get x.b, false, x.op == 8, decide (0 ≤ pr)⟩ (s.f.dep x.a) (s.f.dep x.b) pr from rfl)
  have hev := fun w (h : RunAt w K g c s) => event_few K g c s ⟨0, 2, placeL s.f x c.locs, s.f.get x.b, false, x.op == 8, decide (0 ≤ pr)⟩ (s.f.dep x.a) (s.f.dep x.b) pr w h hf
  unfold Ev.arr at hev
  dsimp only at hev
  clear hx
  generalize placeL s.f x c.locs = pl at *
  generalize s.f.get x.b = vb at *
  generalize s.f.dep x.a = da at *
  generalize s.f.dep x.b = db at *
  clear hB0 hR0
  unfold In.arr at *
  rw [show s.f.arr = #[.int .i64 s.f.v0, .int .i64 s.f.v1, .int .i64 s.f.v2, .int .i64 s.f.v3, .int .u32 (s.f.p0.toNat : Int), .int .u32 (s.f.p1.toNat : Int), .int .u32 (s.f.p2.toNat : Int), .int .u32 (s.f.p3.toNat : Int)] from rfl] at hget hplace
  go_enter Try.func49, Try.ntmps49
  go_wp2_with fail
  go_region_held3 (fun w' => w'.cell? ⟨g, 5, none⟩ = some (.int .i64 s.f.v0) ∧ w'.cell? ⟨g, 6, none⟩ = some (.int .i64 s.f.v1) ∧ w'.cell? ⟨g, 7, none⟩ = some (.int .i64 s.f.v2) ∧ w'.cell? ⟨g, 8, none⟩ = some (.int .i64 s.f.v3) ∧ w'.cell? ⟨g, 9, none⟩ = some (.int .u32 (s.f.p0.toNat : Int)) ∧ w'.cell? ⟨g, 10, none⟩ = some (.int .u32 (s.f.p1.toNat : Int)) ∧ w'.cell? ⟨g, 11, none⟩ = some (.int .u32 (s.f.p2.toNat : Int)) ∧ w'.cell? ⟨g, 12, none⟩ = some (.int .u32 (s.f.p3.toNat : Int)) ∧ w'.cell? ⟨g, 16, none⟩ = some (.int .i64 c.locs) ∧
      w'.cell? ⟨w.heap.size, 0, none⟩ = some (.int .i64 x.op) ∧ w'.cell? ⟨w.heap.size, 1, none⟩ = some (.int .i64 x.d) ∧ w'.cell? ⟨w.heap.size, 2, none⟩ = some (.int .i64 x.a) ∧ w'.cell? ⟨w.heap.size, 3, none⟩ = some (.int .i64 x.b) ∧ w'.cell? ⟨w.heap.size, 4, none⟩ = some (.int .i64 x.loc) ∧ w'.cell? ⟨w.heap.size, 5, none⟩ = some (.int .i64 x.imm))
    (first | exact ⟨q0, q1, q2, q3, q4, q5, q6, q7, q16, c0, c1, c2, c3, c4, c5⟩)
    (first
      | (go_at_call 46; refine (hplace _).mono ?_; rintro e w2 ⟨rfl, hb2⟩; have hB2 := (show Blk (World.drew _) _ _ _ from hB).later hb2; have hx2 := (show Blk (World.drew _) _ _ _ from hx0).later hb2; obtain ⟨q0, q1, q2, q3, q4, q5, q6, q7⟩ := hB2.rfl_; have q16 := hB2.cell 16 (.int .i64 c.locs) rfl; obtain ⟨c0, c1, c2, c3, c4, c5⟩ := Blk.ins (x := x) hx2))
  have hR2 := hR.drew.later hb2
  have hk2 := hk.drew.trans (Kp.of_below hb2 (fun k hk => (hR.kg k hk).2))
  clear hb2 hB hR hk hplace hx0
  go_wp2_with fail
  go_region_held3 (fun w' => w'.cell? ⟨g, 5, none⟩ = some (.int .i64 s.f.v0) ∧ w'.cell? ⟨g, 6, none⟩ = some (.int .i64 s.f.v1) ∧ w'.cell? ⟨g, 7, none⟩ = some (.int .i64 s.f.v2) ∧ w'.cell? ⟨g, 8, none⟩ = some (.int .i64 s.f.v3) ∧ w'.cell? ⟨g, 9, none⟩ = some (.int .u32 (s.f.p0.toNat : Int)) ∧ w'.cell? ⟨g, 10, none⟩ = some (.int .u32 (s.f.p1.toNat : Int)) ∧ w'.cell? ⟨g, 11, none⟩ = some (.int .u32 (s.f.p2.toNat : Int)) ∧ w'.cell? ⟨g, 12, none⟩ = some (.int .u32 (s.f.p3.toNat : Int)) ∧ w'.cell? ⟨w.heap.size, 3, none⟩ = some (.int .i64 x.b))
    (first | exact ⟨q0, q1, q2, q3, q4, q5, q6, q7, c3⟩)
    (first
      | (go_at_call 50; refine (hget _).mono ?_; rintro e w3 ⟨rfl, hb3⟩; have hB3 := (show Blk (World.drew _) _ _ _ from hB2).later hb3; have hx3 := (show Blk (World.drew _) _ _ _ from hx2).later hb3; obtain ⟨q0, q1, q2, q3, q4, q5, q6, q7⟩ := hB3.rfl_; obtain ⟨c0, c1, c2, c3, c4, c5⟩ := Blk.ins (x := x) hx3))
  have hR3 := hR2.drew.later hb3
  have hk3 := hk2.drew.trans (Kp.of_below hb3 (fun k hk => (hR2.kg k hk).2))
  clear hb3 hB2 hR2 hk2 hget hx2 q0 q1 q2 q3 q4 q5 q6 q7 q16
  go_wp2_with fail
  refine (hev _ ⟨E, A, D, C, P, hB3, hR3⟩).mono ?_
  rintro e w4 ⟨rfl, hr, hk4⟩
  clear hB3 hR3 hx3 c0 c1 c2 c3 c4 c5 hev
  go_wp2_with fail
  exact bodyPost_end (v := .tuple #[]) (by simp [results, Try.results49]) rfl ⟨rfl, by rw [Hs.out]; exact hr, hk3.trans hk4⟩

theorem plain_any (K : Nat → Prop) (g : Nat) (c : Cst) (s : St) (x : In) (w : World) (h : RunAt w K g c s) (hf : Few s) (hx : Fit c s x) :
    Calls Try.prog 32 #[.pointer (some ⟨g, 0, none⟩), .agg x.arr] w (Turns K g c (s.store c x (-1)) w) := by
  have hk := (Kp.refl K w).alloc (fun k hk => (h.kg k hk).2) (.cells x.arr 51)
  have h1 := h.later ((Below.refl _ _).alloc (Nat.le_refl _) (.cells x.arr 51))
  have hst := fun w (h : RunAt w K g c s) => store_any K g c s x (-1) w h hf hx
  unfold In.arr at *
  clear hx
  go_enter Try.func32, Try.ntmps32
  go_wp2_with fail
  refine (hst _ h1).mono ?_
  rintro e w1 ⟨rfl, hr, hk1⟩
  go_wp2_with fail
  exact bodyPost_end (v := .tuple #[]) (by simp [results, Try.results32]) rfl ⟨rfl, hr, hk.trans hk1⟩

end Go.Proofs.Ytgefngjfpodiiaa
