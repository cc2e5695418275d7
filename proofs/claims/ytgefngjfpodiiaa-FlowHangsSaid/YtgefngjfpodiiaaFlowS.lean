/-
  A thread's barriers, branches and instructions of registers alone (flow's fence, branch, alone), by walks.
-/
import Derived.Test.YtgefngjfpodiiaaFlowE
namespace Go.Proofs.Ytgefngjfpodiiaa
open Go.RowKit
set_option linter.unusedVariables false

/-- Few events. -/
structure Few (s : St) : Prop where
  l1 : s.ev.length ≤ 1000
  l2 : s.addr.length ≤ 1000
  l3 : s.data.length ≤ 1000
  l4 : s.ctrl.length ≤ 1000
  l5 : s.pair.length ≤ 1000

/-- What a method of the runner does. -/
def Turns (K : Nat → Prop) (g : Nat) (c : Cst) (s : St) (w : World) (e : Ending) (w' : World) : Prop := e = .returned (.tuple #[]) ∧ RunAt w' K g c s ∧ Kp K w w'

theorem event_few (K : Nat → Prop) (g : Nat) (c : Cst) (s : St) (e : Ev) (ad da : U32) (pr : Int) (w : World) (h : RunAt w K g c s) (hf : Few s) :
    Calls Try.prog 47 #[.pointer (some ⟨g, 0, none⟩), .agg e.arr, .int .u32 (ad.toNat : Int), .int .u32 (da.toNat : Int), .int .i64 pr] w (Turns K g c (s.push e ad da pr) w) :=
  event_any K g c s e ad da pr w h hf.l1 hf.l2 hf.l3 hf.l4 hf.l5

def fenceEv (x : In) : Ev := ⟨0, if x.op = 11 then 3 + x.imm else 6, 0, 0, false, false, false⟩
def St.fence (s : St) (x : In) : St := s.push (fenceEv x) 0 0 (-1)

theorem fence_event (K : Nat → Prop) (g : Nat) (c : Cst) (s : St) (kind : Int) (w : World) (h : RunAt w K g c s) (hf : Few s) :
    Calls Try.prog 47 #[.pointer (some ⟨g, 0, none⟩), .agg #[.int .i64 0, .int .i64 kind, .int .i64 0, .int .i64 0, .bool false, .bool false, .bool false], .int .u32 0, .int .u32 0, .int .i64 (-1)] w (Turns K g c (s.push ⟨0, kind, 0, 0, false, false, false⟩ 0 0 (-1)) w) :=
  event_few K g c s ⟨0, kind, 0, 0, false, false, false⟩ 0 0 (-1) w h hf

theorem fence_any (K : Nat → Prop) (g : Nat) (c : Cst) (s : St) (x : In) (w : World) (h : RunAt w K g c s) (hf : Few s) (hx : x.op = 11 → 0 ≤ x.imm ∧ x.imm ≤ 2) :
    Calls Try.prog 33 #[.pointer (some ⟨g, 0, none⟩), .agg x.arr] w (Turns K g c (s.fence x) w) := by
  have hk := (Kp.refl K w).alloc (fun k hk => (h.kg k hk).2) (.cells x.arr 51)
  have h1 := h.later ((Below.refl _ _).alloc (Nat.le_refl _) (.cells x.arr 51))
  unfold In.arr at *
  by_cases h11 : x.op = 11
  · have H : Hid (fenceEv x = ⟨0, 3 + x.imm, 0, 0, false, false, false⟩) := by unfold Hid fenceEv; rw [if_pos h11]
    have t1 : (x.op == 11) = true := by simp [h11]
    have hi := hx h11
    clear hx h11
    go_enter Try.func33, Try.ntmps33
    go_wp2_with fail
    refine (fence_event K g c s _ _ h1 hf).mono ?_
    rintro e w1 ⟨rfl, hr, hk1⟩
    go_wp2_with fail
    exact bodyPost_end (v := .tuple #[]) (by simp [results, Try.results33]) rfl ⟨rfl, by unfold St.fence; rw [H.out]; exact hr, hk.trans hk1⟩
  · have H : Hid (fenceEv x = ⟨0, 6, 0, 0, false, false, false⟩) := by unfold Hid fenceEv; rw [if_neg h11]
    have t1 : (x.op == 11) = false := by simp [h11]
    clear hx h11
    go_enter Try.func33, Try.ntmps33
    go_wp2_with fail
    refine (fence_event K g c s _ _ h1 hf).mono ?_
    rintro e w1 ⟨rfl, hr, hk1⟩
    go_wp2_with fail
    exact bodyPost_end (v := .tuple #[]) (by simp [results, Try.results33]) rfl ⟨rfl, by unfold St.fence; rw [H.out]; exact hr, hk.trans hk1⟩

theorem Blk.rfl_ {w : World} {g : Nat} {E A D C P : Value} {c : Cst} {s : St} {t : TypeId} (h : Blk w g (rarr E A D C P c s) t) :
    w.cell? ⟨g, 5, none⟩ = some (.int .i64 s.f.v0) ∧ w.cell? ⟨g, 6, none⟩ = some (.int .i64 s.f.v1) ∧ w.cell? ⟨g, 7, none⟩ = some (.int .i64 s.f.v2) ∧ w.cell? ⟨g, 8, none⟩ = some (.int .i64 s.f.v3) ∧
    w.cell? ⟨g, 9, none⟩ = some (.int .u32 (s.f.p0.toNat : Int)) ∧ w.cell? ⟨g, 10, none⟩ = some (.int .u32 (s.f.p1.toNat : Int)) ∧ w.cell? ⟨g, 11, none⟩ = some (.int .u32 (s.f.p2.toNat : Int)) ∧ w.cell? ⟨g, 12, none⟩ = some (.int .u32 (s.f.p3.toNat : Int)) :=
  ⟨h.cell 5 _ rfl, h.cell 6 _ rfl, h.cell 7 _ rfl, h.cell 8 _ rfl, h.cell 9 _ rfl, h.cell 10 _ rfl, h.cell 11 _ rfl, h.cell 12 _ rfl⟩

/-- Stores that touch no slice of the runner's. -/
theorem RunAt.fl {w : World} {K : Nat → Prop} {g : Nat} {c : Cst} {s : St} {E A D C P : Value} (hB : Blk w g (rarr E A D C P c s) 57) (hR : Rws w K g (rrows E A D C P s)) (f : Fl) : RunAt (setFl w g 5 f) K g c { s with f := f } := by
  refine ⟨E, A, D, C, P, ?_, ((((((((hR.set 5 _).set 6 _).set 7 _).set 8 _).set 9 _).set 10 _).set 11 _).set 12 _)⟩
  have h0 : Blk w g #[E, A, D, C, P, .int .i64 s.f.v0, .int .i64 s.f.v1, .int .i64 s.f.v2, .int .i64 s.f.v3, .int .u32 (s.f.p0.toNat : Int), .int .u32 (s.f.p1.toNat : Int), .int .u32 (s.f.p2.toNat : Int), .int .u32 (s.f.p3.toNat : Int), .int .i64 (s.vals : Int), .int .i64 (s.lucks : Int), .int .i64 s.more, .int .i64 c.locs, c.va, c.la, .int .u32 (s.cur.toNat : Int), .int .i64 s.last, .int .i64 s.skip] 57 := hB
  have h1 : Blk _ g #[E, A, D, C, P, .int .i64 f.v0, .int .i64 s.f.v1, .int .i64 s.f.v2, .int .i64 s.f.v3, .int .u32 (s.f.p0.toNat : Int), .int .u32 (s.f.p1.toNat : Int), .int .u32 (s.f.p2.toNat : Int), .int .u32 (s.f.p3.toNat : Int), .int .i64 (s.vals : Int), .int .i64 (s.lucks : Int), .int .i64 s.more, .int .i64 c.locs, c.va, c.la, .int .u32 (s.cur.toNat : Int), .int .i64 s.last, .int .i64 s.skip] 57 := h0.set 5 _
  have h2 : Blk _ g #[E, A, D, C, P, .int .i64 f.v0, .int .i64 f.v1, .int .i64 s.f.v2, .int .i64 s.f.v3, .int .u32 (s.f.p0.toNat : Int), .int .u32 (s.f.p1.toNat : Int), .int .u32 (s.f.p2.toNat : Int), .int .u32 (s.f.p3.toNat : Int), .int .i64 (s.vals : Int), .int .i64 (s.lucks : Int), .int .i64 s.more, .int .i64 c.locs, c.va, c.la, .int .u32 (s.cur.toNat : Int), .int .i64 s.last, .int .i64 s.skip] 57 := h1.set 6 _
  have h3 : Blk _ g #[E, A, D, C, P, .int .i64 f.v0, .int .i64 f.v1, .int .i64 f.v2, .int .i64 s.f.v3, .int .u32 (s.f.p0.toNat : Int), .int .u32 (s.f.p1.toNat : Int), .int .u32 (s.f.p2.toNat : Int), .int .u32 (s.f.p3.toNat : Int), .int .i64 (s.vals : Int), .int .i64 (s.lucks : Int), .int .i64 s.more, .int .i64 c.locs, c.va, c.la, .int .u32 (s.cur.toNat : Int), .int .i64 s.last, .int .i64 s.skip] 57 := h2.set 7 _
  have h4 : Blk _ g #[E, A, D, C, P, .int .i64 f.v0, .int .i64 f.v1, .int .i64 f.v2, .int .i64 f.v3, .int .u32 (s.f.p0.toNat : Int), .int .u32 (s.f.p1.toNat : Int), .int .u32 (s.f.p2.toNat : Int), .int .u32 (s.f.p3.toNat : Int), .int .i64 (s.vals : Int), .int .i64 (s.lucks : Int), .int .i64 s.more, .int .i64 c.locs, c.va, c.la, .int .u32 (s.cur.toNat : Int), .int .i64 s.last, .int .i64 s.skip] 57 := h3.set 8 _
  have h5 : Blk _ g #[E, A, D, C, P, .int .i64 f.v0, .int .i64 f.v1, .int .i64 f.v2, .int .i64 f.v3, .int .u32 (f.p0.toNat : Int), .int .u32 (s.f.p1.toNat : Int), .int .u32 (s.f.p2.toNat : Int), .int .u32 (s.f.p3.toNat : Int), .int .i64 (s.vals : Int), .int .i64 (s.lucks : Int), .int .i64 s.more, .int .i64 c.locs, c.va, c.la, .int .u32 (s.cur.toNat : Int), .int .i64 s.last, .int .i64 s.skip] 57 := h4.set 9 _
  have h6 : Blk _ g #[E, A, D, C, P, .int .i64 f.v0, .int .i64 f.v1, .int .i64 f.v2, .int .i64 f.v3, .int .u32 (f.p0.toNat : Int), .int .u32 (f.p1.toNat : Int), .int .u32 (s.f.p2.toNat : Int), .int .u32 (s.f.p3.toNat : Int), .int .i64 (s.vals : Int), .int .i64 (s.lucks : Int), .int .i64 s.more, .int .i64 c.locs, c.va, c.la, .int .u32 (s.cur.toNat : Int), .int .i64 s.last, .int .i64 s.skip] 57 := h5.set 10 _
  have h7 : Blk _ g #[E, A, D, C, P, .int .i64 f.v0, .int .i64 f.v1, .int .i64 f.v2, .int .i64 f.v3, .int .u32 (f.p0.toNat : Int), .int .u32 (f.p1.toNat : Int), .int .u32 (f.p2.toNat : Int), .int .u32 (s.f.p3.toNat : Int), .int .i64 (s.vals : Int), .int .i64 (s.lucks : Int), .int .i64 s.more, .int .i64 c.locs, c.va, c.la, .int .u32 (s.cur.toNat : Int), .int .i64 s.last, .int .i64 s.skip] 57 := h6.set 11 _
  have h8 : Blk _ g #[E, A, D, C, P, .int .i64 f.v0, .int .i64 f.v1, .int .i64 f.v2, .int .i64 f.v3, .int .u32 (f.p0.toNat : Int), .int .u32 (f.p1.toNat : Int), .int .u32 (f.p2.toNat : Int), .int .u32 (f.p3.toNat : Int), .int .i64 (s.vals : Int), .int .i64 (s.lucks : Int), .int .i64 s.more, .int .i64 c.locs, c.va, c.la, .int .u32 (s.cur.toNat : Int), .int .i64 s.last, .int .i64 s.skip] 57 := h7.set 12 _
  exact h8
theorem setFl_kp {K : Nat → Prop} {a w : World} (h : Kp K a w) {g : Nat} (hg : ¬K g) (o : Nat) (f : Fl) : Kp K a (setFl w g o f) := by
  unfold setFl
  exact (((((((h.set hg _ _).set hg _ _).set hg _ _).set hg _ _).set hg _ _).set hg _ _).set hg _ _).set hg _ _

def St.alone (s : St) (x : In) : St := { s with f := doI s.f x }

set_option maxHeartbeats 3200000 in
theorem alone_any (K : Nat → Prop) (g : Nat) (c : Cst) (s : St) (x : In) (w : World) (h : RunAt w K g c s) :
    Calls Try.prog 35 #[.pointer (some ⟨g, 0, none⟩), .agg x.arr] w (Turns K g c (s.alone x) w) := by
  have hk := (Kp.refl K w).alloc (fun k hk => (h.kg k hk).2) (.cells x.arr 51)
  have hx := Blk.new w x.arr 51
  have hnk := h.nk
  obtain ⟨E, A, D, C, P, hB0, hR0⟩ := h
  have hB := hB0.alloc (.cells x.arr 51)
  have hR := hR0.alloc (.cells x.arr 51)
  have hgl := hB0.lt
  obtain ⟨q0, q1, q2, q3, q4, q5, q6, q7⟩ := hB.rfl_
  obtain ⟨c0, c1, c2, c3, c4, c5⟩ := Blk.ins (x := x) hx
  have hdo := fun w => do_any s.f x w
  obtain ⟨fd, hfd⟩ : ∃ fd, doI s.f x = fd := ⟨_, rfl⟩
  have Hs : Hid (s.alone x = { s with f := fd }) := by unfold Hid St.alone; rw [hfd]
  rw [hfd] at hdo
  clear hfd hB0 hR0
  unfold In.arr at *
  rw [show s.f.arr = #[.int .i64 s.f.v0, .int .i64 s.f.v1, .int .i64 s.f.v2, .int .i64 s.f.v3, .int .u32 (s.f.p0.toNat : Int), .int .u32 (s.f.p1.toNat : Int), .int .u32 (s.f.p2.toNat : Int), .int .u32 (s.f.p3.toNat : Int)] from rfl,
    show fd.arr = #[.int .i64 fd.v0, .int .i64 fd.v1, .int .i64 fd.v2, .int .i64 fd.v3, .int .u32 (fd.p0.toNat : Int), .int .u32 (fd.p1.toNat : Int), .int .u32 (fd.p2.toNat : Int), .int .u32 (fd.p3.toNat : Int)] from rfl] at hdo
  go_enter Try.func35, Try.ntmps35
  go_wp2_with fail
  go_region_law ((go_simp; go_at_call 51; refine (hdo _).mono ?_; rintro e w2 ⟨rfl, hb2⟩; have hB2 := (show Blk (World.drew _) _ _ _ from hB).later hb2; have hf2 := hB2.frozen; obtain ⟨p0, p1, p2, p3, p4, p5, p6, p7⟩ := hB2.rfl_))
  all_goals
    go_wp2_with fail
    refine bodyPost_end (v := .tuple #[]) (by simp [results, Try.results35]) rfl ⟨rfl, ?_, setFl_kp ((hk.drew).trans (Kp.of_below hb2 (fun k hk => (hR.kg k hk).2))) hnk 5 fd⟩
    rw [Hs.out]
    exact RunAt.fl hB2 (hR.drew.later hb2) fd

end Go.Proofs.Ytgefngjfpodiiaa
