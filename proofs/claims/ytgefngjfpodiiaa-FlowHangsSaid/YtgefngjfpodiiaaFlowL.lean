/-
  A thread's loads (flow's load), by a walk.
-/
import Derived.Test.YtgefngjfpodiiaaFlowT
namespace Go.Proofs.Ytgefngjfpodiiaa
open Go.RowKit
set_option linter.unusedVariables false

/-- The bit of an event, as the walk spells the shift. -/
theorem shl_bit (n : Nat) (h : n < 32) : IntKind.u32.wrap (2 ^ min (IntKind.u64.wrap (n : Int)).toNat 32) = ((bitv n).toNat : Int) := by
  have hw : IntKind.u64.wrap (n : Int) = n := by
    simp only [IntKind.wrap, IntKind.bits, IntKind.signed]
    simp
    omega
  rw [hw, Int.toNat_natCast, Nat.min_eq_left (by omega), ← bitv_int]
  simp only [IntKind.wrap, IntKind.bits, IntKind.signed]
  simp

theorem ownsRow_slice {w : World} {base : Nat} {e : TypeId} {size : Nat} {v : Value} {n : Nat} {xs : List Value} (h : w.ownsRow base e size v n xs) : ∃ A cap, v = .slice A n cap := by
  rcases h.2 with ⟨rfl, rfl⟩ | ⟨g, cap, cur, rfl, _⟩
  · exact ⟨none, 0, rfl⟩
  · exact ⟨_, _, rfl⟩

theorem Blk.drew_ {w : World} {g : Nat} {cs : Array Value} {t : TypeId} (h : Blk w g cs t) : Blk w.drew g cs t := h
theorem Blk.drewN_ {w : World} {g : Nat} {cs : Array Value} {t : TypeId} (h : Blk w g cs t) (n : Nat) : Blk (w.drewN n) g cs t := h
theorem Rws.drewN {w : World} {K : Nat → Prop} {g : Nat} {rows : List Row} (h : Rws w K g rows) (n : Nat) : Rws (w.drewN n) K g rows := ⟨h.own, h.ap, h.offg, h.off, h.kg, h.gl⟩
theorem Kp.drewN {K : Nat → Prop} {a b : World} (h : Kp K a b) (n : Nat) : Kp K a (b.drewN n) := ⟨h.os, h.tape, h.output, h.size, h.block⟩

theorem Blk.rflf {w : World} {g : Nat} {E A D C P : Value} {c : Cst} {s : St} {t : TypeId} {f : Fl} (h : Blk w g (rarr E A D C P c s) t) (hf : s.f = f) :
    w.cell? ⟨g, 5, none⟩ = some (.int .i64 f.v0) ∧ w.cell? ⟨g, 6, none⟩ = some (.int .i64 f.v1) ∧ w.cell? ⟨g, 7, none⟩ = some (.int .i64 f.v2) ∧ w.cell? ⟨g, 8, none⟩ = some (.int .i64 f.v3) ∧
    w.cell? ⟨g, 9, none⟩ = some (.int .u32 (f.p0.toNat : Int)) ∧ w.cell? ⟨g, 10, none⟩ = some (.int .u32 (f.p1.toNat : Int)) ∧ w.cell? ⟨g, 11, none⟩ = some (.int .u32 (f.p2.toNat : Int)) ∧ w.cell? ⟨g, 12, none⟩ = some (.int .u32 (f.p3.toNat : Int)) := by
  subst hf; exact h.rfl_

def loadEv (c : Cst) (s : St) (x : In) (v : Int) : Ev := ⟨0, 1, placeL s.f x c.locs, v, x.op == 7, false, x.op == 9⟩
/-- A load that finds its value. -/
def St.took (s : St) (c : Cst) (x : In) (v : Int) : St :=
  { St.push { s with vals := s.vals + 1 } (loadEv c s x v) (s.f.dep x.a) 0 (-1) with last := if x.op = 9 then s.ev.length else s.last, f := s.f.set x.d v (bitv s.ev.length) }
def St.load (s : St) (c : Cst) (vals : List Int) (x : In) : St := match vals[s.vals]? with | some v => s.took c x v | none => { s with more := 1 }

theorem load_event (K : Nat → Prop) (g : Nat) (c : Cst) (s : St) (e : Ev) (ad : U32) (w : World) (h : RunAt w K g c s) (hf : Few s) :
    Calls Try.prog 47 #[.pointer (some ⟨g, 0, none⟩), .agg #[.int .i64 e.thread, .int .i64 e.kind, .int .i64 e.loc, .int .i64 e.val, .bool e.acq, .bool e.rel, .bool e.excl], .int .u32 (ad.toNat : Int), .int .u32 0, .int .i64 (-1)] w (Turns K g c (s.push e ad 0 (-1)) w) :=
  event_few K g c s e ad 0 (-1) w h hf

set_option maxHeartbeats 6400000 in
theorem load_none (K : Nat → Prop) (g : Nat) (c : Cst) (s : St) (x : In) (VA : Option Addr) (cap : Nat) (n : Nat) (w : World) (h : RunAt w K g c s) (hva : c.va = .slice VA n cap) (hn : s.vals = n) :
    Calls Try.prog 30 #[.pointer (some ⟨g, 0, none⟩), .agg x.arr] w (Turns K g c { s with more := 1 } w) := by
  have hk := (Kp.refl K w).alloc (fun k hk => (h.kg k hk).2) (.cells x.arr 51)
  have hnk := h.nk
  obtain ⟨E, A, D, C, P, hB0, hR0⟩ := h
  have hB := hB0.alloc (.cells x.arr 51)
  have hR := hR0.alloc (.cells x.arr 51)
  have hgl := hB0.lt
  have q13 := hB.cell 13 (.int .i64 (s.vals : Int)) rfl
  have q15 := hB.cell 15 (.int .i64 s.more) rfl
  have q17 := hB.cell 17 c.va rfl
  have hfz := hB.frozen
  rw [hva] at q17
  rw [hn] at q13
  clear hB0 hR0 hva hn
  unfold In.arr at *
  go_enter Try.func30, Try.ntmps30
  go_wp2_with fail
  go_quiet (fail)
  go_wp2_with fail
  exact bodyPost_ret (v := .tuple #[]) (by simp [results, Try.results30]) rfl ⟨rfl, ⟨E, A, D, C, P, RunAt.set1 (hB.drewN_ _) (hR.drewN _) 15 (.int .i64 1) rfl rfl⟩, (hk.drewN _).set hnk _ _⟩

set_option maxHeartbeats 12800000 in
theorem load_some (K : Nat → Prop) (g B : Nat) (c : Cst) (s : St) (x : In) (VA : Option Addr) (cap : Nat) (vals : List Int) (w : World) (h : RunAt w K g c s) (hf : Few s) (hx : Fit c s x) (hKB : ∀ k, k < B → K k) (hl32 : s.ev.length < 32)
    (hva : c.va = .slice VA vals.length cap) (hrd : Rd w B VA (is vals)) (hn : s.vals < vals.length) (hvl : vals.length ≤ 1000) :
    Calls Try.prog 30 #[.pointer (some ⟨g, 0, none⟩), .agg x.arr] w (Turns K g c (s.took c x vals[s.vals]) w) := by
  have hk := (Kp.refl K w).alloc (fun k hk => (h.kg k hk).2) (.cells x.arr 51)
  have hnk := h.nk
  have hra := h.also (.cells x.arr 51)
  obtain ⟨E, A, D, C, P, hB0, hR0⟩ := h
  have hx0 := Blk.new w x.arr 51
  have hB := hB0.alloc (.cells x.arr 51)
  have hR := hR0.also (.cells x.arr 51)
  have hgl := hB0.lt
  have hgx : g ≠ w.heap.size := by omega
  have q13 := hB.cell 13 (.int .i64 (s.vals : Int)) rfl
  have q17 := hB.cell 17 c.va rfl
  rw [hva] at q17
  obtain ⟨bv, ov, rfl, hbv, hcv⟩ := hrd.at_is hn
  have hv0 := hcv s.vals hn
  have hKv := hKB bv hbv
  have hne : ((s.vals : Int) == (vals.length : Int)) = false := by rw [beq_eq_false_iff_ne]; omega
  obtain ⟨q0, q1, q2, q3, q4, q5, q6, q7⟩ := hB.rfl_
  have q16 := hB.cell 16 (.int .i64 c.locs) rfl
  obtain ⟨c0, c1, c2, c3, c4, c5⟩ := Blk.ins (x := x) hx0
  have hplace := fun w => place_any s.f x c.locs w hx.k hx.l1 hx.l3 hx.xl hx.a
  clear hcv hB0 hx
  unfold In.arr at *
  rw [show s.f.arr = #[.int .i64 s.f.v0, .int .i64 s.f.v1, .int .i64 s.f.v2, .int .i64 s.f.v3, .int .u32 (s.f.p0.toNat : Int), .int .u32 (s.f.p1.toNat : Int), .int .u32 (s.f.p2.toNat : Int), .int .u32 (s.f.p3.toNat : Int)] from rfl] at hplace
  go_enter Try.func30, Try.ntmps30
  go_wp2_with fail
  go_quiet (fail)
  have hB1 := hB.drewN_ nq
  have hR1 := hR.drewN nq
  have hx1 := hx0.drewN_ nq
  have hk1 := hk.drewN nq
  clear q0 q1 q2 q3 q4 q5 q6 q7 q16 q13 q17 c0 c1 c2 c3 c4 c5 hB hR hx0 hk hra
  obtain ⟨w1, hw1⟩ : ∃ w1, World.drewN (w.alloc (.cells #[.int .i64 x.op, .int .i64 x.d, .int .i64 x.a, .int .i64 x.b, .int .i64 x.loc, .int .i64 x.imm] 51)) nq = w1 := ⟨_, rfl⟩
  rw [hw1] at hB1 hR1 hx1 hk1
  rw [hw1]
  clear hw1
  obtain ⟨q0, q1, q2, q3, q4, q5, q6, q7⟩ := hB1.rfl_
  have q16 := hB1.cell 16 (.int .i64 c.locs) rfl
  obtain ⟨c0, c1, c2, c3, c4, c5⟩ := Blk.ins (x := x) hx1
  go_wp2_with fail
  go_region_held3 (fun w' => w'.cell? ⟨g, 5, none⟩ = some (.int .i64 s.f.v0) ∧ w'.cell? ⟨g, 6, none⟩ = some (.int .i64 s.f.v1) ∧ w'.cell? ⟨g, 7, none⟩ = some (.int .i64 s.f.v2) ∧ w'.cell? ⟨g, 8, none⟩ = some (.int .i64 s.f.v3) ∧ w'.cell? ⟨g, 9, none⟩ = some (.int .u32 (s.f.p0.toNat : Int)) ∧ w'.cell? ⟨g, 10, none⟩ = some (.int .u32 (s.f.p1.toNat : Int)) ∧ w'.cell? ⟨g, 11, none⟩ = some (.int .u32 (s.f.p2.toNat : Int)) ∧ w'.cell? ⟨g, 12, none⟩ = some (.int .u32 (s.f.p3.toNat : Int)) ∧ w'.cell? ⟨g, 16, none⟩ = some (.int .i64 c.locs) ∧ w'.cell? ⟨w.heap.size, 0, none⟩ = some (.int .i64 x.op) ∧ w'.cell? ⟨w.heap.size, 1, none⟩ = some (.int .i64 x.d) ∧ w'.cell? ⟨w.heap.size, 2, none⟩ = some (.int .i64 x.a) ∧ w'.cell? ⟨w.heap.size, 3, none⟩ = some (.int .i64 x.b) ∧ w'.cell? ⟨w.heap.size, 4, none⟩ = some (.int .i64 x.loc) ∧ w'.cell? ⟨w.heap.size, 5, none⟩ = some (.int .i64 x.imm))
    (first | exact ⟨q0, q1, q2, q3, q4, q5, q6, q7, q16, c0, c1, c2, c3, c4, c5⟩)
    (first
      | (go_at_call 46; refine (hplace _).mono ?_; rintro e w2 ⟨rfl, hb2⟩; have hB2 := (show Blk (World.drew _) _ _ _ from hB1).later hb2; have hx2 := (show Blk (World.drew _) _ _ _ from hx1).later hb2; obtain ⟨q0, q1, q2, q3, q4, q5, q6, q7⟩ := hB2.rfl_; have q16 := hB2.cell 16 (.int .i64 c.locs) rfl; obtain ⟨c0, c1, c2, c3, c4, c5⟩ := Blk.ins (x := x) hx2))
  have hR2 := hR1.drew.later hb2
  have hk2 := hk1.drew.trans (Kp.of_below hb2 (fun k hk => (hR1.kg k (.inl hk)).2))
  have hv2 : w2.cell? ⟨bv, ov + s.vals, none⟩ = some (.int .i64 vals[s.vals]) := (World.cell?_of_block (a := ⟨bv, ov + s.vals, none⟩) (hk2.block bv hKv)).trans hv0
  have hgl2 := hB2.lt
  clear hb2 hB1 hR1 hk1 hx1 hplace q0 q1 q2 q3 q4 q5 q6 q7 q16 hv0
  have q13 := hB2.cell 13 (.int .i64 (s.vals : Int)) rfl
  have q17 := hB2.cell 17 c.va rfl
  rw [hva] at q17
  have hi0 : (0 : Int) ≤ (s.vals : Int) := by omega
  have hi1 : (s.vals : Int) < (vals.length : Int) := by omega
  go_wp2_with fail
  go_quiet (fail)
  have hB3 := hB2.drewN_ nq
  have hR3 := hR2.drewN nq
  have hx3 := hx2.drewN_ nq
  have hk3 := hk2.drewN nq
  clear hB2 hR2 hx2 hk2 q13 q17 hv2 hi0 hi1 hgl2 c0 c1 c2 c3 c4 c5 hKv hbv hrd
  obtain ⟨w3, hw3⟩ : ∃ w3, World.drewN w2 nq = w3 := ⟨_, rfl⟩
  rw [hw3] at hB3 hR3 hx3 hk3
  rw [hw3]
  clear hw3
  obtain ⟨c0, c1, c2, c3, c4, c5⟩ := Blk.ins (x := x) hx3
  have q13 := hB3.cell 13 (.int .i64 (s.vals : Int)) rfl
  have q0 := hB3.cell 0 E rfl
  have hfz := hB3.frozen
  obtain ⟨Ea, Ec, rfl⟩ : ∃ A cap, E = .slice A s.ev.length cap := ownsRow_slice (hR3.own 0 _ rfl)
  obtain ⟨v, hv⟩ : ∃ v, vals[s.vals] = v := ⟨_, rfl⟩
  have Hv := Lib.hid hv
  rw [hv]
  have hA := RunAt.set1 (s' := { s with vals := s.vals + 1 }) hB3 hR3 13 (.int .i64 ((s.vals + 1 : Nat) : Int)) rfl rfl
  have hka := hk3.set hnk 13 (.int .i64 ((s.vals + 1 : Nat) : Int))
  have hev := fun w9 (h : RunAt w9 (fun k => K k ∨ k = w.heap.size) g c { s with vals := s.vals + 1 }) => load_event (fun k => K k ∨ k = w.heap.size) g c { s with vals := s.vals + 1 } (loadEv c s x v) (s.f.dep x.a) w9 h ⟨hf.l1, hf.l2, hf.l3, hf.l4, hf.l5⟩
  dsimp only [loadEv] at hev
  have Hs : Hid (s.took c x v = { St.push { s with vals := s.vals + 1 } (loadEv c s x v) (s.f.dep x.a) 0 (-1) with last := if x.op = 9 then s.ev.length else s.last, f := s.f.set x.d v (bitv s.ev.length) }) := rfl
  have hset := fun w => set_any s.f x.d v (bitv s.ev.length) w
  rw [← shl_bit s.ev.length hl32] at hset
  obtain ⟨fd, hfd⟩ : ∃ fd, s.f.set x.d v (bitv s.ev.length) = fd := ⟨_, rfl⟩
  rw [hfd] at hset
  have Hfd := Lib.hid hfd
  clear hfd
  rw [show s.f.arr = #[.int .i64 s.f.v0, .int .i64 s.f.v1, .int .i64 s.f.v2, .int .i64 s.f.v3, .int .u32 (s.f.p0.toNat : Int), .int .u32 (s.f.p1.toNat : Int), .int .u32 (s.f.p2.toNat : Int), .int .u32 (s.f.p3.toNat : Int)] from rfl,
    show fd.arr = #[.int .i64 fd.v0, .int .i64 fd.v1, .int .i64 fd.v2, .int .i64 fd.v3, .int .u32 (fd.p0.toNat : Int), .int .u32 (fd.p1.toNat : Int), .int .u32 (fd.p2.toNat : Int), .int .u32 (fd.p3.toNat : Int)] from rfl] at hset
  go_wp2_with fail
  refine (hev _ ⟨_, A, D, C, P, hA⟩).mono ?_
  rintro e w4 ⟨rfl, hr4, hk4⟩
  have hx4 := hk4.blk (.inr rfl) (hx3.setOther (fun e => hgx e.symm) 13 (.int .i64 ((s.vals + 1 : Nat) : Int)))
  have hke := hka.trans (hk4.mono (fun _ h => .inl h))
  clear c0 c1 c2 c3 c4 c5 q13 q0 hfz hA hka hk4 hev hB3 hR3 hx3 hk3 hv hva
  obtain ⟨E4, A4, D4, C4, P4, hB4, hR4⟩ := hr4
  by_cases h9 : x.op = 9
  · have t9 : (x.op == 9) = true := by simp [h9]
    have Ht : Hid ((if x.op = 9 then (s.ev.length : Int) else s.last) = s.ev.length) := if_pos h9
    clear h9
    have e20 := hB4.cell 20 (.int .i64 s.last) rfl
    have hfz := hB4.frozen
    have hgl4 := hB4.lt
    obtain ⟨c0, c1, c2, c3, c4, c5⟩ := Blk.ins (x := x) hx4
    go_upto_region 10 with fail
    have hA5 := RunAt.set1 (s' := { (St.push { s with vals := s.vals + 1 } (loadEv c s x v) (s.f.dep x.a) 0 (-1)) with last := s.ev.length }) hB4 hR4 20 (.int .i64 (s.ev.length : Int)) rfl rfl
    have hx5 := hx4.setOther (fun e => hgx e.symm) 20 (.int .i64 (s.ev.length : Int))
    have hk5 := hke.set hnk 20 (.int .i64 (s.ev.length : Int))
    clear hB4 hR4 hx4 hke e20 hfz hgl4 c0 c1 c2 c3 c4 c5
    obtain ⟨w5, hw5⟩ : ∃ w5, w4.setCell ⟨g, 20, none⟩ (.int .i64 (s.ev.length : Int)) = w5 := ⟨_, rfl⟩
    rw [hw5] at hA5 hx5 hk5
    rw [hw5]
    obtain ⟨hB5, hR5⟩ := hA5
    clear hw5
    have hx5' := hx5
    obtain ⟨c0, c1, c2, c3, c4, c5⟩ := Blk.ins (x := x) hx5
    obtain ⟨q0, q1, q2, q3, q4, q5, q6, q7⟩ := Blk.rflf (f := s.f) hB5 rfl
    have hgl5 := Blk.lt hB5
    go_wp2_with fail
    go_region_law ((go_simp; go_at_call 48; refine (hset _).mono ?_; rintro e w6 ⟨rfl, hb6⟩; have hB6 := (show Blk (World.drew _) _ _ _ from hB5).later hb6; have hf6 := hB6.frozen; obtain ⟨p0, p1, p2, p3, p4, p5, p6, p7⟩ := hB6.rfl_))
    all_goals
      go_wp2_with fail
      refine bodyPost_end (v := .tuple #[]) (by simp [results, Try.results30]) rfl ⟨rfl, ?_, setFl_kp ((hk5.drew).trans (Kp.of_below hb6 (fun k hk => (hR5.kg k (.inl hk)).2))) hnk 5 fd⟩
      rw [Hv.out, Hs.out, Ht.out, Hfd.out]
      exact (RunAt.fl hB6 (hR5.drew.later hb6) fd).less (fun _ h => .inl h)
  · have t9 : (x.op == 9) = false := by simp [h9]
    have Ht : Hid ((if x.op = 9 then (s.ev.length : Int) else s.last) = s.last) := if_neg h9
    clear h9
    have hB5 := hB4
    have hR5 := hR4
    have hx5 := hx4
    have hk5 := hke
    clear hB4 hR4 hx4 hke
    have hx5' := hx5
    obtain ⟨c0, c1, c2, c3, c4, c5⟩ := Blk.ins (x := x) hx5
    obtain ⟨q0, q1, q2, q3, q4, q5, q6, q7⟩ := Blk.rflf (f := s.f) hB5 rfl
    have hgl5 := Blk.lt hB5
    go_wp2_with fail
    go_region_law ((go_simp; go_at_call 48; refine (hset _).mono ?_; rintro e w6 ⟨rfl, hb6⟩; have hB6 := (show Blk (World.drew _) _ _ _ from hB5).later hb6; have hf6 := hB6.frozen; obtain ⟨p0, p1, p2, p3, p4, p5, p6, p7⟩ := hB6.rfl_))
    all_goals
      go_wp2_with fail
      refine bodyPost_end (v := .tuple #[]) (by simp [results, Try.results30]) rfl ⟨rfl, ?_, setFl_kp ((hk5.drew).trans (Kp.of_below hb6 (fun k hk => (hR5.kg k (.inl hk)).2))) hnk 5 fd⟩
      rw [Hv.out, Hs.out, Ht.out, Hfd.out]
      exact (RunAt.fl hB6 (hR5.drew.later hb6) fd).less (fun _ h => .inl h)

end Go.Proofs.Ytgefngjfpodiiaa
