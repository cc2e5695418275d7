/-
  A thread's exclusive stores (flow's exclusive), by walks.
-/
import Derived.Test.YtgefngjfpodiiaaFlowL
namespace Go.Proofs.Ytgefngjfpodiiaa
open Go.RowKit
set_option linter.unusedVariables false

/-- Booleans as cells. -/
def bs (l : List Bool) : List Value := l.map .bool
theorem bs_get (l : List Bool) (i : Nat) (h : i < l.length) : (bs l)[i]? = some (.bool l[i]) := by simp [bs, h]
theorem Rd.at_bs {w : World} {B : Nat} {A : Option Addr} {l : List Bool} (h : Rd w B A (bs l)) {i : Nat} (hi : i < l.length) :
    ∃ b off, A = some ⟨b, off, none⟩ ∧ b < B ∧ ∀ j (hj : j < l.length), w.cell? ⟨b, off + j, none⟩ = some (.bool l[j]) := by
  rcases h with h | ⟨b, off, hA, hB, hc⟩
  · have : (bs l).length = 0 := by rw [h]; rfl
    simp [bs] at this; subst this; simp at hi
  · exact ⟨b, off, hA, hB, fun j hj => hc j _ (bs_get l j hj)⟩

/-- An exclusive store that fails. -/
def St.failed (s : St) (x : In) : St := { s with last := -1, f := s.f.set x.d 1 0 }
/-- One that fails by bad luck. -/
def St.unlucky (s : St) (x : In) : St := { s with last := -1, lucks := s.lucks + 1, f := s.f.set x.d 1 0 }
/-- One that is done. -/
def St.lucky (s : St) (c : Cst) (x : In) : St := { St.store { s with last := -1, lucks := s.lucks + 1 } c x s.last with f := s.f.set x.d 0 0 }

set_option maxHeartbeats 12800000 in
theorem excl_none (K : Nat → Prop) (g : Nat) (c : Cst) (s : St) (x : In) (w : World) (h : RunAt w K g c s) (hx : Fit c s x) (hl : s.last < 0) :
    Calls Try.prog 31 #[.pointer (some ⟨g, 0, none⟩), .agg x.arr] w (Turns K g c (s.failed x) w) := by
  have hk := (Kp.refl K w).alloc (fun k hk => (h.kg k hk).2) (.cells x.arr 51)
  have hnk := h.nk
  obtain ⟨E, A, D, C, P, hB0, hR0⟩ := h
  have hx0 := Blk.new w x.arr 51
  have hB := hB0.alloc (.cells x.arr 51)
  have hR := hR0.also (.cells x.arr 51)
  have hgl := hB0.lt
  have hgx : g ≠ w.heap.size := by omega
  obtain ⟨q0, q1, q2, q3, q4, q5, q6, q7⟩ := hB.rfl_
  have q16 := hB.cell 16 (.int .i64 c.locs) rfl
  obtain ⟨c0, c1, c2, c3, c4, c5⟩ := Blk.ins (x := x) hx0
  have hplace := fun w => place_any s.f x c.locs w hx.k hx.l1 hx.l3 hx.xl hx.a
  clear hB0 hx
  unfold In.arr at *
  rw [show s.f.arr = #[.int .i64 s.f.v0, .int .i64 s.f.v1, .int .i64 s.f.v2, .int .i64 s.f.v3, .int .u32 (s.f.p0.toNat : Int), .int .u32 (s.f.p1.toNat : Int), .int .u32 (s.f.p2.toNat : Int), .int .u32 (s.f.p3.toNat : Int)] from rfl] at hplace
  go_enter Try.func31, Try.ntmps31
  go_wp2_with fail
  go_region_held3 (fun w' => w'.cell? ⟨g, 5, none⟩ = some (.int .i64 s.f.v0) ∧ w'.cell? ⟨g, 6, none⟩ = some (.int .i64 s.f.v1) ∧ w'.cell? ⟨g, 7, none⟩ = some (.int .i64 s.f.v2) ∧ w'.cell? ⟨g, 8, none⟩ = some (.int .i64 s.f.v3) ∧ w'.cell? ⟨g, 9, none⟩ = some (.int .u32 (s.f.p0.toNat : Int)) ∧ w'.cell? ⟨g, 10, none⟩ = some (.int .u32 (s.f.p1.toNat : Int)) ∧ w'.cell? ⟨g, 11, none⟩ = some (.int .u32 (s.f.p2.toNat : Int)) ∧ w'.cell? ⟨g, 12, none⟩ = some (.int .u32 (s.f.p3.toNat : Int)) ∧ w'.cell? ⟨g, 16, none⟩ = some (.int .i64 c.locs) ∧ w'.cell? ⟨w.heap.size, 0, none⟩ = some (.int .i64 x.op) ∧ w'.cell? ⟨w.heap.size, 1, none⟩ = some (.int .i64 x.d) ∧ w'.cell? ⟨w.heap.size, 2, none⟩ = some (.int .i64 x.a) ∧ w'.cell? ⟨w.heap.size, 3, none⟩ = some (.int .i64 x.b) ∧ w'.cell? ⟨w.heap.size, 4, none⟩ = some (.int .i64 x.loc) ∧ w'.cell? ⟨w.heap.size, 5, none⟩ = some (.int .i64 x.imm))
    (first | exact ⟨q0, q1, q2, q3, q4, q5, q6, q7, q16, c0, c1, c2, c3, c4, c5⟩)
    (first
      | (go_at_call 46; refine (hplace _).mono ?_; rintro e w2 ⟨rfl, hb2⟩; have hB2 := (show Blk (World.drew _) _ _ _ from hB).later hb2; have hx2 := (show Blk (World.drew _) _ _ _ from hx0).later hb2; obtain ⟨q0, q1, q2, q3, q4, q5, q6, q7⟩ := hB2.rfl_; have q16 := hB2.cell 16 (.int .i64 c.locs) rfl; obtain ⟨c0, c1, c2, c3, c4, c5⟩ := Blk.ins (x := x) hx2))
  have hR2 := hR.drew.later hb2
  have hk2 := hk.drew.trans (Kp.of_below hb2 (fun k hk => (hR.kg k (.inl hk)).2))
  have hfz := hB2.frozen
  have hgl2 := hB2.lt
  have q20 := hB2.cell 20 (.int .i64 s.last) rfl
  have t1 : decide (s.last < 0) = true := by simp [hl]
  clear q0 q1 q2 q3 q4 q5 q6 q7 q16 hB hR hk hx0 hplace
  go_wp2_with fail
  go_quiet (fail)
  have hB3 := hB2.drewN_ nq
  have hR3 := hR2.drewN nq
  have hx3 := hx2.drewN_ nq
  have hk3 := hk2.drewN nq
  clear hB2 hR2 hx2 hk2 hgl2 c0 c1 c2 c3 c4 c5 hfz q20
  obtain ⟨w3, hw3⟩ : ∃ w3, World.drewN w2 nq = w3 := ⟨_, rfl⟩
  rw [hw3] at hB3 hR3 hx3 hk3
  rw [hw3]
  clear hw3
  have q20 := hB3.cell 20 (.int .i64 s.last) rfl
  have hfz := hB3.frozen
  have hgl3 := hB3.lt
  go_upto_region 11 with fail
  have hA5 := RunAt.set1 (s' := { s with last := -1 }) hB3 hR3 20 (.int .i64 (-1)) rfl rfl
  have hx5 := hx3.setOther (fun e => hgx e.symm) 20 (.int .i64 (-1))
  have hk5 := hk3.set hnk 20 (.int .i64 (-1))
  clear hB3 hR3 hx3 hk3 q20 hfz hgl3
  obtain ⟨w5, hw5⟩ : ∃ w5, w3.setCell ⟨g, 20, none⟩ (.int .i64 (-1)) = w5 := ⟨_, rfl⟩
  rw [hw5] at hA5 hx5 hk5
  rw [hw5]
  obtain ⟨hB5, hR5⟩ := hA5
  clear hw5
  have hset := fun w => set_zero s.f x.d 1 w
  obtain ⟨fd, hfd⟩ : ∃ fd, s.f.set x.d 1 0 = fd := ⟨_, rfl⟩
  have Hs : Hid (s.failed x = { s with last := -1, f := fd }) := by unfold Hid St.failed; rw [hfd]
  rw [hfd] at hset
  clear hfd
  rw [show s.f.arr = #[.int .i64 s.f.v0, .int .i64 s.f.v1, .int .i64 s.f.v2, .int .i64 s.f.v3, .int .u32 (s.f.p0.toNat : Int), .int .u32 (s.f.p1.toNat : Int), .int .u32 (s.f.p2.toNat : Int), .int .u32 (s.f.p3.toNat : Int)] from rfl,
    show fd.arr = #[.int .i64 fd.v0, .int .i64 fd.v1, .int .i64 fd.v2, .int .i64 fd.v3, .int .u32 (fd.p0.toNat : Int), .int .u32 (fd.p1.toNat : Int), .int .u32 (fd.p2.toNat : Int), .int .u32 (fd.p3.toNat : Int)] from rfl] at hset
  obtain ⟨c0, c1, c2, c3, c4, c5⟩ := Blk.ins (x := x) hx5
  obtain ⟨q0, q1, q2, q3, q4, q5, q6, q7⟩ := Blk.rflf (f := s.f) hB5 rfl
  have hgl5 := Blk.lt hB5
  go_wp2_with fail
  go_region_law ((go_simp; go_at_call 48; refine (hset _).mono ?_; rintro e w6 ⟨rfl, hb6⟩; have hB6 := (show Blk (World.drew _) _ _ _ from hB5).later hb6; have hf6 := hB6.frozen; obtain ⟨p0, p1, p2, p3, p4, p5, p6, p7⟩ := hB6.rfl_))
  all_goals
    go_wp2_with fail
    refine bodyPost_ret (v := .tuple #[]) (by simp [results, Try.results31]) rfl ⟨rfl, ?_, setFl_kp ((hk5.drew).trans (Kp.of_below hb6 (fun k hk => (hR5.kg k (.inl hk)).2))) hnk 5 fd⟩
    rw [Hs.out]
    exact (RunAt.fl hB6 (hR5.drew.later hb6) fd).less (fun _ h => .inl h)

set_option maxHeartbeats 12800000 in
theorem excl_apart (K : Nat → Prop) (g : Nat) (c : Cst) (s : St) (x : In) (i : Nat) (w : World) (h : RunAt w K g c s) (hx : Fit c s x) (hl : s.last = (i : Int)) (hi : i < s.ev.length) (hne : s.ev[i].loc ≠ placeL s.f x c.locs) :
    Calls Try.prog 31 #[.pointer (some ⟨g, 0, none⟩), .agg x.arr] w (Turns K g c (s.failed x) w) := by
  have hk := (Kp.refl K w).alloc (fun k hk => (h.kg k hk).2) (.cells x.arr 51)
  have hnk := h.nk
  obtain ⟨E, A, D, C, P, hB0, hR0⟩ := h
  have hx0 := Blk.new w x.arr 51
  have hB := hB0.alloc (.cells x.arr 51)
  have hR := hR0.also (.cells x.arr 51)
  have hgl := hB0.lt
  have hgx : g ≠ w.heap.size := by omega
  obtain ⟨q0, q1, q2, q3, q4, q5, q6, q7⟩ := hB.rfl_
  have q16 := hB.cell 16 (.int .i64 c.locs) rfl
  obtain ⟨c0, c1, c2, c3, c4, c5⟩ := Blk.ins (x := x) hx0
  have hplace := fun w => place_any s.f x c.locs w hx.k hx.l1 hx.l3 hx.xl hx.a
  clear hB0 hx
  unfold In.arr at *
  rw [show s.f.arr = #[.int .i64 s.f.v0, .int .i64 s.f.v1, .int .i64 s.f.v2, .int .i64 s.f.v3, .int .u32 (s.f.p0.toNat : Int), .int .u32 (s.f.p1.toNat : Int), .int .u32 (s.f.p2.toNat : Int), .int .u32 (s.f.p3.toNat : Int)] from rfl] at hplace
  go_enter Try.func31, Try.ntmps31
  go_wp2_with fail
  go_region_held3 (fun w' => w'.cell? ⟨g, 5, none⟩ = some (.int .i64 s.f.v0) ∧ w'.cell? ⟨g, 6, none⟩ = some (.int .i64 s.f.v1) ∧ w'.cell? ⟨g, 7, none⟩ = some (.int .i64 s.f.v2) ∧ w'.cell? ⟨g, 8, none⟩ = some (.int .i64 s.f.v3) ∧ w'.cell? ⟨g, 9, none⟩ = some (.int .u32 (s.f.p0.toNat : Int)) ∧ w'.cell? ⟨g, 10, none⟩ = some (.int .u32 (s.f.p1.toNat : Int)) ∧ w'.cell? ⟨g, 11, none⟩ = some (.int .u32 (s.f.p2.toNat : Int)) ∧ w'.cell? ⟨g, 12, none⟩ = some (.int .u32 (s.f.p3.toNat : Int)) ∧ w'.cell? ⟨g, 16, none⟩ = some (.int .i64 c.locs) ∧ w'.cell? ⟨w.heap.size, 0, none⟩ = some (.int .i64 x.op) ∧ w'.cell? ⟨w.heap.size, 1, none⟩ = some (.int .i64 x.d) ∧ w'.cell? ⟨w.heap.size, 2, none⟩ = some (.int .i64 x.a) ∧ w'.cell? ⟨w.heap.size, 3, none⟩ = some (.int .i64 x.b) ∧ w'.cell? ⟨w.heap.size, 4, none⟩ = some (.int .i64 x.loc) ∧ w'.cell? ⟨w.heap.size, 5, none⟩ = some (.int .i64 x.imm))
    (first | exact ⟨q0, q1, q2, q3, q4, q5, q6, q7, q16, c0, c1, c2, c3, c4, c5⟩)
    (first
      | (go_at_call 46; refine (hplace _).mono ?_; rintro e w2 ⟨rfl, hb2⟩; have hB2 := (show Blk (World.drew _) _ _ _ from hB).later hb2; have hx2 := (show Blk (World.drew _) _ _ _ from hx0).later hb2; obtain ⟨q0, q1, q2, q3, q4, q5, q6, q7⟩ := hB2.rfl_; have q16 := hB2.cell 16 (.int .i64 c.locs) rfl; obtain ⟨c0, c1, c2, c3, c4, c5⟩ := Blk.ins (x := x) hx2))
  have hR2 := hR.drew.later hb2
  have hk2 := hk.drew.trans (Kp.of_below hb2 (fun k hk => (hR.kg k (.inl hk)).2))
  have hfz := hB2.frozen
  have hgl2 := hB2.lt
  have q20 := hB2.cell 20 (.int .i64 s.last) rfl
  rw [hl] at q20
  have Hl := Lib.hid hl
  obtain ⟨Ea, Ec, rfl⟩ : ∃ A cap, E = .slice A s.ev.length cap := ownsRow_slice (hR2.own 0 _ rfl)
  have hrE := Rd.of_own (show w2.ownsRow 0 47 7 (.slice Ea s.ev.length Ec) s.ev.length (ecells s.ev) from hR2.own 0 _ rfl)
  obtain ⟨be, oe, rfl, hbe, hce⟩ := hrE.at_ev hi
  have qE := hB2.cell 0 (.slice (some ⟨be, oe, none⟩) s.ev.length Ec) rfl
  have d2 := (hce i hi).c2
  have t1 : decide ((i : Int) < 0) = false := by simp
  have i0 : (0 : Int) ≤ (i : Int) := by omega
  have i1 : (i : Int) < (s.ev.length : Int) := by omega
  clear hce hrE hl
  have t2 : (s.ev[i].loc != placeL s.f x c.locs) = true := by simp [hne]
  clear q0 q1 q2 q3 q4 q5 q6 q7 q16 hB hR hk hx0 hplace hne
  go_wp2_with fail
  go_quiet (fail)
  have hB3 := hB2.drewN_ nq
  have hR3 := hR2.drewN nq
  have hx3 := hx2.drewN_ nq
  have hk3 := hk2.drewN nq
  clear hB2 hR2 hx2 hk2 hgl2 c0 c1 c2 c3 c4 c5 hfz q20 qE d2 hbe
  obtain ⟨w3, hw3⟩ : ∃ w3, World.drewN w2 nq = w3 := ⟨_, rfl⟩
  rw [hw3] at hB3 hR3 hx3 hk3
  rw [hw3]
  clear hw3
  have q20 := hB3.cell 20 (.int .i64 s.last) rfl
  have hfz := hB3.frozen
  have hgl3 := hB3.lt
  go_upto_region 11 with fail
  have hA5 := RunAt.set1 (s' := { s with last := -1 }) hB3 hR3 20 (.int .i64 (-1)) rfl rfl
  have hx5 := hx3.setOther (fun e => hgx e.symm) 20 (.int .i64 (-1))
  have hk5 := hk3.set hnk 20 (.int .i64 (-1))
  clear hB3 hR3 hx3 hk3 q20 hfz hgl3
  obtain ⟨w5, hw5⟩ : ∃ w5, w3.setCell ⟨g, 20, none⟩ (.int .i64 (-1)) = w5 := ⟨_, rfl⟩
  rw [hw5] at hA5 hx5 hk5
  rw [hw5]
  obtain ⟨hB5, hR5⟩ := hA5
  clear hw5
  have hset := fun w => set_zero s.f x.d 1 w
  obtain ⟨fd, hfd⟩ : ∃ fd, s.f.set x.d 1 0 = fd := ⟨_, rfl⟩
  have Hs : Hid (s.failed x = { s with last := -1, f := fd }) := by unfold Hid St.failed; rw [hfd]
  rw [hfd] at hset
  clear hfd
  rw [show s.f.arr = #[.int .i64 s.f.v0, .int .i64 s.f.v1, .int .i64 s.f.v2, .int .i64 s.f.v3, .int .u32 (s.f.p0.toNat : Int), .int .u32 (s.f.p1.toNat : Int), .int .u32 (s.f.p2.toNat : Int), .int .u32 (s.f.p3.toNat : Int)] from rfl,
    show fd.arr = #[.int .i64 fd.v0, .int .i64 fd.v1, .int .i64 fd.v2, .int .i64 fd.v3, .int .u32 (fd.p0.toNat : Int), .int .u32 (fd.p1.toNat : Int), .int .u32 (fd.p2.toNat : Int), .int .u32 (fd.p3.toNat : Int)] from rfl] at hset
  obtain ⟨c0, c1, c2, c3, c4, c5⟩ := Blk.ins (x := x) hx5
  obtain ⟨q0, q1, q2, q3, q4, q5, q6, q7⟩ := Blk.rflf (f := s.f) hB5 rfl
  have hgl5 := Blk.lt hB5
  go_wp2_with fail
  go_region_law ((go_simp; go_at_call 48; refine (hset _).mono ?_; rintro e w6 ⟨rfl, hb6⟩; have hB6 := (show Blk (World.drew _) _ _ _ from hB5).later hb6; have hf6 := hB6.frozen; obtain ⟨p0, p1, p2, p3, p4, p5, p6, p7⟩ := hB6.rfl_))
  all_goals
    go_wp2_with fail
    refine bodyPost_ret (v := .tuple #[]) (by simp [results, Try.results31]) rfl ⟨rfl, ?_, setFl_kp ((hk5.drew).trans (Kp.of_below hb6 (fun k hk => (hR5.kg k (.inl hk)).2))) hnk 5 fd⟩
    rw [Hs.out]
    exact (RunAt.fl hB6 (hR5.drew.later hb6) fd).less (fun _ h => .inl h)

set_option maxHeartbeats 12800000 in
theorem excl_out (K : Nat → Prop) (g : Nat) (c : Cst) (s : St) (x : In) (i : Nat) (LA : Option Addr) (n cap : Nat) (w : World) (h : RunAt w K g c s) (hx : Fit c s x) (hl : s.last = (i : Int)) (hi : i < s.ev.length) (heq : s.ev[i].loc = placeL s.f x c.locs)
    (hla : c.la = .slice LA n cap) (hn : s.lucks = n) :
    Calls Try.prog 31 #[.pointer (some ⟨g, 0, none⟩), .agg x.arr] w (Turns K g c { s with more := 2 } w) := by
  have hk := (Kp.refl K w).alloc (fun k hk => (h.kg k hk).2) (.cells x.arr 51)
  have hnk := h.nk
  obtain ⟨E, A, D, C, P, hB0, hR0⟩ := h
  have hx0 := Blk.new w x.arr 51
  have hB := hB0.alloc (.cells x.arr 51)
  have hR := hR0.also (.cells x.arr 51)
  have hgl := hB0.lt
  have hgx : g ≠ w.heap.size := by omega
  obtain ⟨q0, q1, q2, q3, q4, q5, q6, q7⟩ := hB.rfl_
  have q16 := hB.cell 16 (.int .i64 c.locs) rfl
  obtain ⟨c0, c1, c2, c3, c4, c5⟩ := Blk.ins (x := x) hx0
  have hplace := fun w => place_any s.f x c.locs w hx.k hx.l1 hx.l3 hx.xl hx.a
  clear hB0 hx
  unfold In.arr at *
  rw [show s.f.arr = #[.int .i64 s.f.v0, .int .i64 s.f.v1, .int .i64 s.f.v2, .int .i64 s.f.v3, .int .u32 (s.f.p0.toNat : Int), .int .u32 (s.f.p1.toNat : Int), .int .u32 (s.f.p2.toNat : Int), .int .u32 (s.f.p3.toNat : Int)] from rfl] at hplace
  go_enter Try.func31, Try.ntmps31
  go_wp2_with fail
  go_region_held3 (fun w' => w'.cell? ⟨g, 5, none⟩ = some (.int .i64 s.f.v0) ∧ w'.cell? ⟨g, 6, none⟩ = some (.int .i64 s.f.v1) ∧ w'.cell? ⟨g, 7, none⟩ = some (.int .i64 s.f.v2) ∧ w'.cell? ⟨g, 8, none⟩ = some (.int .i64 s.f.v3) ∧ w'.cell? ⟨g, 9, none⟩ = some (.int .u32 (s.f.p0.toNat : Int)) ∧ w'.cell? ⟨g, 10, none⟩ = some (.int .u32 (s.f.p1.toNat : Int)) ∧ w'.cell? ⟨g, 11, none⟩ = some (.int .u32 (s.f.p2.toNat : Int)) ∧ w'.cell? ⟨g, 12, none⟩ = some (.int .u32 (s.f.p3.toNat : Int)) ∧ w'.cell? ⟨g, 16, none⟩ = some (.int .i64 c.locs) ∧ w'.cell? ⟨w.heap.size, 0, none⟩ = some (.int .i64 x.op) ∧ w'.cell? ⟨w.heap.size, 1, none⟩ = some (.int .i64 x.d) ∧ w'.cell? ⟨w.heap.size, 2, none⟩ = some (.int .i64 x.a) ∧ w'.cell? ⟨w.heap.size, 3, none⟩ = some (.int .i64 x.b) ∧ w'.cell? ⟨w.heap.size, 4, none⟩ = some (.int .i64 x.loc) ∧ w'.cell? ⟨w.heap.size, 5, none⟩ = some (.int .i64 x.imm))
    (first | exact ⟨q0, q1, q2, q3, q4, q5, q6, q7, q16, c0, c1, c2, c3, c4, c5⟩)
    (first
      | (go_at_call 46; refine (hplace _).mono ?_; rintro e w2 ⟨rfl, hb2⟩; have hB2 := (show Blk (World.drew _) _ _ _ from hB).later hb2; have hx2 := (show Blk (World.drew _) _ _ _ from hx0).later hb2; obtain ⟨q0, q1, q2, q3, q4, q5, q6, q7⟩ := hB2.rfl_; have q16 := hB2.cell 16 (.int .i64 c.locs) rfl; obtain ⟨c0, c1, c2, c3, c4, c5⟩ := Blk.ins (x := x) hx2))
  have hR2 := hR.drew.later hb2
  have hk2 := hk.drew.trans (Kp.of_below hb2 (fun k hk => (hR.kg k (.inl hk)).2))
  have hfz := hB2.frozen
  have hgl2 := hB2.lt
  have q20 := hB2.cell 20 (.int .i64 s.last) rfl
  rw [hl] at q20
  have Hl := Lib.hid hl
  obtain ⟨Ea, Ec, rfl⟩ : ∃ A cap, E = .slice A s.ev.length cap := ownsRow_slice (hR2.own 0 _ rfl)
  have hrE := Rd.of_own (show w2.ownsRow 0 47 7 (.slice Ea s.ev.length Ec) s.ev.length (ecells s.ev) from hR2.own 0 _ rfl)
  obtain ⟨be, oe, rfl, hbe, hce⟩ := hrE.at_ev hi
  have qE := hB2.cell 0 (.slice (some ⟨be, oe, none⟩) s.ev.length Ec) rfl
  have d2 := (hce i hi).c2
  have t1 : decide ((i : Int) < 0) = false := by simp
  have i0 : (0 : Int) ≤ (i : Int) := by omega
  have i1 : (i : Int) < (s.ev.length : Int) := by omega
  clear hce hrE hl
  have t2 : (s.ev[i].loc != placeL s.f x c.locs) = false := by simp [heq]
  have q14 := hB2.cell 14 (.int .i64 (s.lucks : Int)) rfl
  have q15 := hB2.cell 15 (.int .i64 s.more) rfl
  have q18 := hB2.cell 18 c.la rfl
  rw [hla] at q18
  rw [hn] at q14
  clear q0 q1 q2 q3 q4 q5 q6 q7 q16 hB hR hk hx0 hplace heq hla hn
  go_wp2_with fail
  go_quiet (fail)
  go_wp2_with fail
  exact bodyPost_ret (v := .tuple #[]) (by simp [results, Try.results31]) rfl ⟨rfl, RunAt.less ⟨_, A, D, C, P, RunAt.set1 (hB2.drewN_ _) (hR2.drewN _) 15 (.int .i64 2) rfl rfl⟩ (fun _ h => .inl h), (hk2.drewN _).set hnk _ _⟩

set_option maxHeartbeats 12800000 in
theorem excl_unlucky (K : Nat → Prop) (g B : Nat) (c : Cst) (s : St) (x : In) (i : Nat) (LA : Option Addr) (cap : Nat) (lucks : List Bool) (w : World) (h : RunAt w K g c s) (hx : Fit c s x) (hl : s.last = (i : Int)) (hi : i < s.ev.length) (heq : s.ev[i].loc = placeL s.f x c.locs)
    (hla : c.la = .slice LA lucks.length cap) (hrd : Rd w B LA (bs lucks)) (hKB : ∀ k, k < B → K k) (hn : s.lucks < lucks.length) (hll : lucks.length ≤ 1000) (hlu : lucks[s.lucks] = false) :
    Calls Try.prog 31 #[.pointer (some ⟨g, 0, none⟩), .agg x.arr] w (Turns K g c (s.unlucky x) w) := by
  have hk := (Kp.refl K w).alloc (fun k hk => (h.kg k hk).2) (.cells x.arr 51)
  have hnk := h.nk
  obtain ⟨E, A, D, C, P, hB0, hR0⟩ := h
  have hx0 := Blk.new w x.arr 51
  have hB := hB0.alloc (.cells x.arr 51)
  have hR := hR0.also (.cells x.arr 51)
  have hgl := hB0.lt
  have hgx : g ≠ w.heap.size := by omega
  obtain ⟨q0, q1, q2, q3, q4, q5, q6, q7⟩ := hB.rfl_
  have q16 := hB.cell 16 (.int .i64 c.locs) rfl
  obtain ⟨c0, c1, c2, c3, c4, c5⟩ := Blk.ins (x := x) hx0
  have hplace := fun w => place_any s.f x c.locs w hx.k hx.l1 hx.l3 hx.xl hx.a
  clear hB0 hx
  unfold In.arr at *
  rw [show s.f.arr = #[.int .i64 s.f.v0, .int .i64 s.f.v1, .int .i64 s.f.v2, .int .i64 s.f.v3, .int .u32 (s.f.p0.toNat : Int), .int .u32 (s.f.p1.toNat : Int), .int .u32 (s.f.p2.toNat : Int), .int .u32 (s.f.p3.toNat : Int)] from rfl] at hplace
  go_enter Try.func31, Try.ntmps31
  go_wp2_with fail
  go_region_held3 (fun w' => w'.cell? ⟨g, 5, none⟩ = some (.int .i64 s.f.v0) ∧ w'.cell? ⟨g, 6, none⟩ = some (.int .i64 s.f.v1) ∧ w'.cell? ⟨g, 7, none⟩ = some (.int .i64 s.f.v2) ∧ w'.cell? ⟨g, 8, none⟩ = some (.int .i64 s.f.v3) ∧ w'.cell? ⟨g, 9, none⟩ = some (.int .u32 (s.f.p0.toNat : Int)) ∧ w'.cell? ⟨g, 10, none⟩ = some (.int .u32 (s.f.p1.toNat : Int)) ∧ w'.cell? ⟨g, 11, none⟩ = some (.int .u32 (s.f.p2.toNat : Int)) ∧ w'.cell? ⟨g, 12, none⟩ = some (.int .u32 (s.f.p3.toNat : Int)) ∧ w'.cell? ⟨g, 16, none⟩ = some (.int .i64 c.locs) ∧ w'.cell? ⟨w.heap.size, 0, none⟩ = some (.int .i64 x.op) ∧ w'.cell? ⟨w.heap.size, 1, none⟩ = some (.int .i64 x.d) ∧ w'.cell? ⟨w.heap.size, 2, none⟩ = some (.int .i64 x.a) ∧ w'.cell? ⟨w.heap.size, 3, none⟩ = some (.int .i64 x.b) ∧ w'.cell? ⟨w.heap.size, 4, none⟩ = some (.int .i64 x.loc) ∧ w'.cell? ⟨w.heap.size, 5, none⟩ = some (.int .i64 x.imm))
    (first | exact ⟨q0, q1, q2, q3, q4, q5, q6, q7, q16, c0, c1, c2, c3, c4, c5⟩)
    (first
      | (go_at_call 46; refine (hplace _).mono ?_; rintro e w2 ⟨rfl, hb2⟩; have hB2 := (show Blk (World.drew _) _ _ _ from hB).later hb2; have hx2 := (show Blk (World.drew _) _ _ _ from hx0).later hb2; obtain ⟨q0, q1, q2, q3, q4, q5, q6, q7⟩ := hB2.rfl_; have q16 := hB2.cell 16 (.int .i64 c.locs) rfl; obtain ⟨c0, c1, c2, c3, c4, c5⟩ := Blk.ins (x := x) hx2))
  have hR2 := hR.drew.later hb2
  have hk2 := hk.drew.trans (Kp.of_below hb2 (fun k hk => (hR.kg k (.inl hk)).2))
  have hfz := hB2.frozen
  have hgl2 := hB2.lt
  have q20 := hB2.cell 20 (.int .i64 s.last) rfl
  rw [hl] at q20
  have Hl := Lib.hid hl
  obtain ⟨Ea, Ec, rfl⟩ : ∃ A cap, E = .slice A s.ev.length cap := ownsRow_slice (hR2.own 0 _ rfl)
  have hrE := Rd.of_own (show w2.ownsRow 0 47 7 (.slice Ea s.ev.length Ec) s.ev.length (ecells s.ev) from hR2.own 0 _ rfl)
  obtain ⟨be, oe, rfl, hbe, hce⟩ := hrE.at_ev hi
  have qE := hB2.cell 0 (.slice (some ⟨be, oe, none⟩) s.ev.length Ec) rfl
  have d2 := (hce i hi).c2
  have t1 : decide ((i : Int) < 0) = false := by simp
  have i0 : (0 : Int) ≤ (i : Int) := by omega
  have i1 : (i : Int) < (s.ev.length : Int) := by omega
  clear hce hrE hl
  have t2 : (s.ev[i].loc != placeL s.f x c.locs) = false := by simp [heq]
  have t3 : ((s.lucks : Int) == (lucks.length : Int)) = false := by rw [beq_eq_false_iff_ne]; omega
  have q14 := hB2.cell 14 (.int .i64 (s.lucks : Int)) rfl
  have q18 := hB2.cell 18 c.la rfl
  rw [hla] at q18
  have Hla := Lib.hid hla
  obtain ⟨bv, ov, rfl, hbv, hcv⟩ := hrd.at_bs hn
  have hv0 := hcv s.lucks hn
  rw [hlu] at hv0
  have hKv := hKB bv hbv
  clear q0 q1 q2 q3 q4 q5 q6 q7 q16 hB hR hk hx0 hplace heq hla hcv hlu
  go_wp2_with fail
  go_quiet (fail)
  have hB3 := hB2.drewN_ nq
  have hR3 := hR2.drewN nq
  have hx3 := hx2.drewN_ nq
  have hk3 := hk2.drewN nq
  clear hB2 hR2 hx2 hk2 hgl2 c0 c1 c2 c3 c4 c5 hfz q20 qE d2 hbe q14 q18
  obtain ⟨w3, hw3⟩ : ∃ w3, World.drewN w2 nq = w3 := ⟨_, rfl⟩
  rw [hw3] at hB3 hR3 hx3 hk3
  rw [hw3]
  clear hw3
  have q20 := hB3.cell 20 (.int .i64 s.last) rfl
  have hfz := hB3.frozen
  have hgl3 := hB3.lt
  go_upto_region 8 with fail
  have hA5 := RunAt.set1 (s' := { s with last := -1 }) hB3 hR3 20 (.int .i64 (-1)) rfl rfl
  have hx5 := hx3.setOther (fun e => hgx e.symm) 20 (.int .i64 (-1))
  have hk5 := hk3.set hnk 20 (.int .i64 (-1))
  clear hB3 hR3 hx3 hk3 q20 hfz hgl3
  obtain ⟨w5, hw5⟩ : ∃ w5, w3.setCell ⟨g, 20, none⟩ (.int .i64 (-1)) = w5 := ⟨_, rfl⟩
  rw [hw5] at hA5 hx5 hk5
  rw [hw5]
  obtain ⟨hB5, hR5⟩ := hA5
  clear hw5
  have v5 : w5.cell? ⟨bv, ov + s.lucks, none⟩ = some (.bool false) := (World.cell?_of_block (a := ⟨bv, ov + s.lucks, none⟩) (hk5.block bv hKv)).trans hv0
  have q14 := hB5.cell 14 (.int .i64 (s.lucks : Int)) rfl
  have q18 := hB5.cell 18 c.la rfl
  rw [Hla.out] at q18
  have n0 : (0 : Int) ≤ (s.lucks : Int) := by omega
  have n1 : (s.lucks : Int) < (lucks.length : Int) := by omega
  clear hv0 hrd
  go_quiet (fail)
  have hB6 := hB5.drewN_ nq
  have hR6 := hR5.drewN nq
  have hx6 := hx5.drewN_ nq
  have hk6 := hk5.drewN nq
  clear hB5 hR5 hx5 hk5 v5 q14 q18 n0 n1 hKv hbv t1 t2 t3 i0 i1
  obtain ⟨w6, hw6⟩ : ∃ w6, World.drewN w5 nq = w6 := ⟨_, rfl⟩
  rw [hw6] at hB6 hR6 hx6 hk6
  rw [hw6]
  clear hw6
  have q14 := hB6.cell 14 (.int .i64 (s.lucks : Int)) rfl
  have hfz := hB6.frozen
  have hgl6 := hB6.lt
  have hll : s.lucks < 1000 := by omega
  go_upto_region 11 with fail
  have hA7 := RunAt.set1 (s' := { s with last := -1, lucks := s.lucks + 1 }) hB6 hR6 14 (.int .i64 ((s.lucks + 1 : Nat) : Int)) rfl rfl
  have hx7 := hx6.setOther (fun e => hgx e.symm) 14 (.int .i64 ((s.lucks + 1 : Nat) : Int))
  have hk7 := hk6.set hnk 14 (.int .i64 ((s.lucks + 1 : Nat) : Int))
  clear hB6 hR6 hx6 hk6 q14 hfz hgl6
  obtain ⟨w7, hw7⟩ : ∃ w7, w6.setCell ⟨g, 14, none⟩ (.int .i64 ((s.lucks + 1 : Nat) : Int)) = w7 := ⟨_, rfl⟩
  rw [hw7] at hA7 hx7 hk7
  first | rw [hw7] | (rw [show ((s.lucks : Int) + 1) = ((s.lucks + 1 : Nat) : Int) from by omega, hw7])
  obtain ⟨hB5, hR5⟩ := hA7
  have hx5 := hx7
  have hk5 := hk7
  clear hw7 hx7 hk7
  have hset := fun w => set_zero s.f x.d 1 w
  obtain ⟨fd, hfd⟩ : ∃ fd, s.f.set x.d 1 0 = fd := ⟨_, rfl⟩
  have Hs : Hid (s.unlucky x = { s with last := -1, lucks := s.lucks + 1, f := fd }) := by unfold Hid St.unlucky; rw [hfd]
  rw [hfd] at hset
  clear hfd
  rw [show s.f.arr = #[.int .i64 s.f.v0, .int .i64 s.f.v1, .int .i64 s.f.v2, .int .i64 s.f.v3, .int .u32 (s.f.p0.toNat : Int), .int .u32 (s.f.p1.toNat : Int), .int .u32 (s.f.p2.toNat : Int), .int .u32 (s.f.p3.toNat : Int)] from rfl,
    show fd.arr = #[.int .i64 fd.v0, .int .i64 fd.v1, .int .i64 fd.v2, .int .i64 fd.v3, .int .u32 (fd.p0.toNat : Int), .int .u32 (fd.p1.toNat : Int), .int .u32 (fd.p2.toNat : Int), .int .u32 (fd.p3.toNat : Int)] from rfl] at hset
  obtain ⟨c0, c1, c2, c3, c4, c5⟩ := Blk.ins (x := x) hx5
  obtain ⟨q0, q1, q2, q3, q4, q5, q6, q7⟩ := Blk.rflf (f := s.f) hB5 rfl
  have hgl5 := Blk.lt hB5
  go_wp2_with fail
  go_region_law ((go_simp; go_at_call 48; refine (hset _).mono ?_; rintro e w6 ⟨rfl, hb6⟩; have hB6 := (show Blk (World.drew _) _ _ _ from hB5).later hb6; have hf6 := hB6.frozen; obtain ⟨p0, p1, p2, p3, p4, p5, p6, p7⟩ := hB6.rfl_))
  all_goals
    go_wp2_with fail
    refine bodyPost_ret (v := .tuple #[]) (by simp [results, Try.results31]) rfl ⟨rfl, ?_, setFl_kp ((hk5.drew).trans (Kp.of_below hb6 (fun k hk => (hR5.kg k (.inl hk)).2))) hnk 5 fd⟩
    rw [Hs.out]
    exact (RunAt.fl hB6 (hR5.drew.later hb6) fd).less (fun _ h => .inl h)

set_option maxHeartbeats 12800000 in
theorem excl_lucky (K : Nat → Prop) (g B : Nat) (c : Cst) (s : St) (x : In) (i : Nat) (LA : Option Addr) (cap : Nat) (lucks : List Bool) (w : World) (h : RunAt w K g c s) (hf : Few s) (hx : Fit c s x) (hl : s.last = (i : Int)) (hi : i < s.ev.length) (heq : s.ev[i].loc = placeL s.f x c.locs)
    (hla : c.la = .slice LA lucks.length cap) (hrd : Rd w B LA (bs lucks)) (hKB : ∀ k, k < B → K k) (hn : s.lucks < lucks.length) (hll : lucks.length ≤ 1000) (hlu : lucks[s.lucks] = true) :
    Calls Try.prog 31 #[.pointer (some ⟨g, 0, none⟩), .agg x.arr] w (Turns K g c (s.lucky c x) w) := by
  have hk := (Kp.refl K w).alloc (fun k hk => (h.kg k hk).2) (.cells x.arr 51)
  have hnk := h.nk
  obtain ⟨E, A, D, C, P, hB0, hR0⟩ := h
  have hx0 := Blk.new w x.arr 51
  have hB := hB0.alloc (.cells x.arr 51)
  have hR := hR0.also (.cells x.arr 51)
  have hgl := hB0.lt
  have hgx : g ≠ w.heap.size := by omega
  obtain ⟨q0, q1, q2, q3, q4, q5, q6, q7⟩ := hB.rfl_
  have q16 := hB.cell 16 (.int .i64 c.locs) rfl
  obtain ⟨c0, c1, c2, c3, c4, c5⟩ := Blk.ins (x := x) hx0
  have hplace := fun w => place_any s.f x c.locs w hx.k hx.l1 hx.l3 hx.xl hx.a
  clear hB0 
  have Hx : Hid (Fit c s x) := hx
  clear hx
  unfold In.arr at *
  rw [show s.f.arr = #[.int .i64 s.f.v0, .int .i64 s.f.v1, .int .i64 s.f.v2, .int .i64 s.f.v3, .int .u32 (s.f.p0.toNat : Int), .int .u32 (s.f.p1.toNat : Int), .int .u32 (s.f.p2.toNat : Int), .int .u32 (s.f.p3.toNat : Int)] from rfl] at hplace
  go_enter Try.func31, Try.ntmps31
  go_wp2_with fail
  go_region_held3 (fun w' => w'.cell? ⟨g, 5, none⟩ = some (.int .i64 s.f.v0) ∧ w'.cell? ⟨g, 6, none⟩ = some (.int .i64 s.f.v1) ∧ w'.cell? ⟨g, 7, none⟩ = some (.int .i64 s.f.v2) ∧ w'.cell? ⟨g, 8, none⟩ = some (.int .i64 s.f.v3) ∧ w'.cell? ⟨g, 9, none⟩ = some (.int .u32 (s.f.p0.toNat : Int)) ∧ w'.cell? ⟨g, 10, none⟩ = some (.int .u32 (s.f.p1.toNat : Int)) ∧ w'.cell? ⟨g, 11, none⟩ = some (.int .u32 (s.f.p2.toNat : Int)) ∧ w'.cell? ⟨g, 12, none⟩ = some (.int .u32 (s.f.p3.toNat : Int)) ∧ w'.cell? ⟨g, 16, none⟩ = some (.int .i64 c.locs) ∧ w'.cell? ⟨w.heap.size, 0, none⟩ = some (.int .i64 x.op) ∧ w'.cell? ⟨w.heap.size, 1, none⟩ = some (.int .i64 x.d) ∧ w'.cell? ⟨w.heap.size, 2, none⟩ = some (.int .i64 x.a) ∧ w'.cell? ⟨w.heap.size, 3, none⟩ = some (.int .i64 x.b) ∧ w'.cell? ⟨w.heap.size, 4, none⟩ = some (.int .i64 x.loc) ∧ w'.cell? ⟨w.heap.size, 5, none⟩ = some (.int .i64 x.imm))
    (first | exact ⟨q0, q1, q2, q3, q4, q5, q6, q7, q16, c0, c1, c2, c3, c4, c5⟩)
    (first
      | (go_at_call 46; refine (hplace _).mono ?_; rintro e w2 ⟨rfl, hb2⟩; have hB2 := (show Blk (World.drew _) _ _ _ from hB).later hb2; have hx2 := (show Blk (World.drew _) _ _ _ from hx0).later hb2; obtain ⟨q0, q1, q2, q3, q4, q5, q6, q7⟩ := hB2.rfl_; have q16 := hB2.cell 16 (.int .i64 c.locs) rfl; obtain ⟨c0, c1, c2, c3, c4, c5⟩ := Blk.ins (x := x) hx2))
  have hR2 := hR.drew.later hb2
  have hk2 := hk.drew.trans (Kp.of_below hb2 (fun k hk => (hR.kg k (.inl hk)).2))
  have hfz := hB2.frozen
  have hgl2 := hB2.lt
  have q20 := hB2.cell 20 (.int .i64 s.last) rfl
  rw [hl] at q20
  have Hl := Lib.hid hl
  obtain ⟨Ea, Ec, rfl⟩ : ∃ A cap, E = .slice A s.ev.length cap := ownsRow_slice (hR2.own 0 _ rfl)
  have hrE := Rd.of_own (show w2.ownsRow 0 47 7 (.slice Ea s.ev.length Ec) s.ev.length (ecells s.ev) from hR2.own 0 _ rfl)
  obtain ⟨be, oe, rfl, hbe, hce⟩ := hrE.at_ev hi
  have qE := hB2.cell 0 (.slice (some ⟨be, oe, none⟩) s.ev.length Ec) rfl
  have d2 := (hce i hi).c2
  have t1 : decide ((i : Int) < 0) = false := by simp
  have i0 : (0 : Int) ≤ (i : Int) := by omega
  have i1 : (i : Int) < (s.ev.length : Int) := by omega
  clear hce hrE hl
  have t2 : (s.ev[i].loc != placeL s.f x c.locs) = false := by simp [heq]
  have t3 : ((s.lucks : Int) == (lucks.length : Int)) = false := by rw [beq_eq_false_iff_ne]; omega
  have q14 := hB2.cell 14 (.int .i64 (s.lucks : Int)) rfl
  have q18 := hB2.cell 18 c.la rfl
  rw [hla] at q18
  have Hla := Lib.hid hla
  obtain ⟨bv, ov, rfl, hbv, hcv⟩ := hrd.at_bs hn
  have hv0 := hcv s.lucks hn
  rw [hlu] at hv0
  have hKv := hKB bv hbv
  clear q0 q1 q2 q3 q4 q5 q6 q7 q16 hB hR hk hx0 hplace heq hla hcv hlu
  go_wp2_with fail
  go_quiet (fail)
  have hB3 := hB2.drewN_ nq
  have hR3 := hR2.drewN nq
  have hx3 := hx2.drewN_ nq
  have hk3 := hk2.drewN nq
  clear hB2 hR2 hx2 hk2 hgl2 c0 c1 c2 c3 c4 c5 hfz q20 qE d2 hbe q14 q18
  obtain ⟨w3, hw3⟩ : ∃ w3, World.drewN w2 nq = w3 := ⟨_, rfl⟩
  rw [hw3] at hB3 hR3 hx3 hk3
  rw [hw3]
  clear hw3
  have q20 := hB3.cell 20 (.int .i64 s.last) rfl
  have hfz := hB3.frozen
  have hgl3 := hB3.lt
  go_upto_region 8 with fail
  have hA5 := RunAt.set1 (s' := { s with last := -1 }) hB3 hR3 20 (.int .i64 (-1)) rfl rfl
  have hx5 := hx3.setOther (fun e => hgx e.symm) 20 (.int .i64 (-1))
  have hk5 := hk3.set hnk 20 (.int .i64 (-1))
  clear hB3 hR3 hx3 hk3 q20 hfz hgl3
  obtain ⟨w5, hw5⟩ : ∃ w5, w3.setCell ⟨g, 20, none⟩ (.int .i64 (-1)) = w5 := ⟨_, rfl⟩
  rw [hw5] at hA5 hx5 hk5
  rw [hw5]
  obtain ⟨hB5, hR5⟩ := hA5
  clear hw5
  have v5 : w5.cell? ⟨bv, ov + s.lucks, none⟩ = some (.bool true) := (World.cell?_of_block (a := ⟨bv, ov + s.lucks, none⟩) (hk5.block bv hKv)).trans hv0
  have q14 := hB5.cell 14 (.int .i64 (s.lucks : Int)) rfl
  have q18 := hB5.cell 18 c.la rfl
  rw [Hla.out] at q18
  have n0 : (0 : Int) ≤ (s.lucks : Int) := by omega
  have n1 : (s.lucks : Int) < (lucks.length : Int) := by omega
  clear hv0 hrd
  go_quiet (fail)
  have hB6 := hB5.drewN_ nq
  have hR6 := hR5.drewN nq
  have hx6 := hx5.drewN_ nq
  have hk6 := hk5.drewN nq
  clear hB5 hR5 hx5 hk5 v5 q14 q18 n0 n1 hKv hbv t1 t2 t3 i0 i1
  obtain ⟨w6, hw6⟩ : ∃ w6, World.drewN w5 nq = w6 := ⟨_, rfl⟩
  rw [hw6] at hB6 hR6 hx6 hk6
  rw [hw6]
  clear hw6
  have q14 := hB6.cell 14 (.int .i64 (s.lucks : Int)) rfl
  have hfz := hB6.frozen
  have hgl6 := hB6.lt
  have hll : s.lucks < 1000 := by omega
  go_upto_region 12 with fail
  have hA7 := RunAt.set1 (s' := { s with last := -1, lucks := s.lucks + 1 }) hB6 hR6 14 (.int .i64 ((s.lucks + 1 : Nat) : Int)) rfl rfl
  have hx7 := hx6.setOther (fun e => hgx e.symm) 14 (.int .i64 ((s.lucks + 1 : Nat) : Int))
  have hk7 := hk6.set hnk 14 (.int .i64 ((s.lucks + 1 : Nat) : Int))
  clear hB6 hR6 hx6 hk6 q14 hfz hgl6
  obtain ⟨w7, hw7⟩ : ∃ w7, w6.setCell ⟨g, 14, none⟩ (.int .i64 ((s.lucks + 1 : Nat) : Int)) = w7 := ⟨_, rfl⟩
  rw [hw7] at hA7 hx7 hk7
  first | rw [hw7] | (rw [show ((s.lucks : Int) + 1) = ((s.lucks + 1 : Nat) : Int) from by omega, hw7])
  clear hw7
  have Hs : Hid (s.lucky c x = { St.store { s with last := -1, lucks := s.lucks + 1 } c x (i : Int) with f := s.f.set x.d 0 0 }) := by unfold Hid St.lucky; rw [Hl.out]
  have hst := fun w9 h => store_any (fun k => K k ∨ k = w.heap.size) g c { s with last := -1, lucks := s.lucks + 1 } x (i : Int) w9 h ⟨hf.l1, hf.l2, hf.l3, hf.l4, hf.l5⟩ ⟨Hx.out.l1, Hx.out.l3, Hx.out.k, Hx.out.xl, Hx.out.a⟩
  unfold In.arr at hst
  obtain ⟨c0, c1, c2, c3, c4, c5⟩ := Blk.ins (x := x) hx7
  go_wp2_with fail
  refine (hst _ ⟨_, A, D, C, P, hA7⟩).mono ?_
  rintro e w8 ⟨rfl, hr8, hk8⟩
  have hx8 := hk8.blk (.inr rfl) hx7
  have hk9 := hk7.trans (hk8.mono (fun _ h => .inl h))
  clear c0 c1 c2 c3 c4 c5 hst hA7 hx7 hk7 hk8
  obtain ⟨E8, A8, D8, C8, P8, hB8, hR8⟩ := hr8
  obtain ⟨s8, hs8⟩ : ∃ s8, St.store { s with last := -1, lucks := s.lucks + 1 } c x (i : Int) = s8 := ⟨_, rfl⟩
  have hsf : s8.f = s.f := by rw [← hs8]; rfl
  have Hs8 := Lib.hid hs8
  rw [hs8] at hB8 hR8
  clear hs8
  have hset := fun w => set_zero s.f x.d 0 w
  obtain ⟨fd, hfd⟩ : ∃ fd, s.f.set x.d 0 0 = fd := ⟨_, rfl⟩
  have Hfd := Lib.hid hfd
  rw [hfd] at hset
  clear hfd
  rw [show s.f.arr = #[.int .i64 s.f.v0, .int .i64 s.f.v1, .int .i64 s.f.v2, .int .i64 s.f.v3, .int .u32 (s.f.p0.toNat : Int), .int .u32 (s.f.p1.toNat : Int), .int .u32 (s.f.p2.toNat : Int), .int .u32 (s.f.p3.toNat : Int)] from rfl,
    show fd.arr = #[.int .i64 fd.v0, .int .i64 fd.v1, .int .i64 fd.v2, .int .i64 fd.v3, .int .u32 (fd.p0.toNat : Int), .int .u32 (fd.p1.toNat : Int), .int .u32 (fd.p2.toNat : Int), .int .u32 (fd.p3.toNat : Int)] from rfl] at hset
  obtain ⟨c0, c1, c2, c3, c4, c5⟩ := Blk.ins (x := x) hx8
  obtain ⟨q0, q1, q2, q3, q4, q5, q6, q7⟩ := Blk.rflf (f := s.f) hB8 hsf
  have hgl8 := Blk.lt hB8
  clear hsf
  go_wp2_with fail
  go_region_law ((go_simp; go_at_call 48; refine (hset _).mono ?_; rintro e w6 ⟨rfl, hb6⟩; have hB6 := (show Blk (World.drew _) _ _ _ from hB8).later hb6; have hf6 := hB6.frozen; obtain ⟨p0, p1, p2, p3, p4, p5, p6, p7⟩ := hB6.rfl_))
  all_goals
    go_wp2_with fail
    refine bodyPost_end (v := .tuple #[]) (by simp [results, Try.results31]) rfl ⟨rfl, ?_, setFl_kp ((hk9.drew).trans (Kp.of_below hb6 (fun k hk => (hR8.kg k (.inl hk)).2))) hnk 5 fd⟩
    rw [Hs.out, Hs8.out, Hfd.out]
    exact (RunAt.fl hB6 (hR8.drew.later hb6) fd).less (fun _ h => .inl h)

end Go.Proofs.Ytgefngjfpodiiaa
