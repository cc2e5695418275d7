/-
  What a thread does (flow's Run), by a walk.
-/
import Derived.Test.YtgefngjfpodiiaaFlowP
import Derived.Laws.CopyOwn
import Derived.Deep.MidRow
namespace Go.Proofs.Ytgefngjfpodiiaa
open Go.RowKit
set_option linter.unusedVariables false

theorem InAt.drew {w : World} {b o : Nat} {x : In} (h : InAt w b o x) : InAt w.drew b o x := ⟨h.c0, h.c1, h.c2, h.c3, h.c4, h.c5⟩
def St.zero : St := ⟨[], [], [], [], [], ⟨0, 0, 0, 0, 0, 0, 0, 0⟩, 0, 0, 0, 0, -1, 0⟩
/-- What a thread does. -/
def runS (c : Cst) (th : List In) (vals : List Int) (lucks : List Bool) : St := if mayTh th c.locs then runL c vals lucks th St.zero else St.zero

/-- A trace's sixteen cells. -/
def tarr (E A D C P : Value) (s : St) : Array Value :=
  #[E, A, D, C, P, .int .i64 s.f.v0, .int .i64 s.f.v1, .int .i64 s.f.v2, .int .i64 s.f.v3, .int .u32 (s.f.p0.toNat : Int), .int .u32 (s.f.p1.toNat : Int), .int .u32 (s.f.p2.toNat : Int), .int .u32 (s.f.p3.toNat : Int),
    .int .i64 (s.vals : Int), .int .i64 (s.lucks : Int), .int .i64 s.more]
/-- A trace, handed back, and its lists in memory. -/
def TrAt (w : World) (B : Nat) (v : Value) (s : St) : Prop :=
  ∃ (a1 a2 a3 a4 a5 : Option Addr) (c1 c2 c3 c4 c5 : Nat), v = .agg (tarr (.slice a1 s.ev.length c1) (.slice a2 s.addr.length c2) (.slice a3 s.data.length c3) (.slice a4 s.ctrl.length c4) (.slice a5 s.pair.length c5) s) ∧
    Rd w B a1 (ecells s.ev) ∧ Rd w B a2 (us s.addr) ∧ Rd w B a3 (us s.data) ∧ Rd w B a4 (us s.ctrl) ∧ Rd w B a5 (is s.pair) ∧ s.ev.length ≤ c1
theorem TrAt.later {w w' : World} {v : Value} {s : St} (h : TrAt w w.heap.size v s) (hb : Below w.heap.size w w') : TrAt w' w'.heap.size v s := by
  obtain ⟨a1, a2, a3, a4, a5, c1, c2, c3, c4, c5, hv, h1, h2, h3, h4, h5, h6⟩ := h
  exact ⟨a1, a2, a3, a4, a5, c1, c2, c3, c4, c5, hv, h1.all hb, h2.all hb, h3.all hb, h4.all hb, h5.all hb, h6⟩
theorem ownsRow_cap {w : World} {base : Nat} {e : TypeId} {size : Nat} {v : Value} {n : Nat} {xs : List Value} (h : w.ownsRow base e size v n xs) : ∃ A cap, v = .slice A n cap ∧ n ≤ cap := by
  rcases h.2 with ⟨hv, hn⟩ | ⟨g, cap, cur, hv, _, _, hc, _⟩
  · exact ⟨none, 0, by rw [hv, hn], by omega⟩
  · exact ⟨_, cap, hv, hc⟩
theorem tr_of_run {w : World} {K : Nat → Prop} {g : Nat} {s : St} {E A D C P : Value} (h : Rws w K g (rrows E A D C P s)) : TrAt w w.heap.size (.agg (tarr E A D C P s)) s := by
  obtain ⟨a1, c1, rfl, hc1⟩ : ∃ A cap, E = .slice A s.ev.length cap ∧ s.ev.length ≤ cap := ownsRow_cap (h.own 0 _ rfl)
  obtain ⟨a2, c2, rfl, hc2⟩ : ∃ X cap, A = .slice X s.addr.length cap ∧ s.addr.length ≤ cap := ownsRow_cap (h.own 1 _ rfl)
  obtain ⟨a3, c3, rfl, hc3⟩ : ∃ X cap, D = .slice X s.data.length cap ∧ s.data.length ≤ cap := ownsRow_cap (h.own 2 _ rfl)
  obtain ⟨a4, c4, rfl, hc4⟩ : ∃ X cap, C = .slice X s.ctrl.length cap ∧ s.ctrl.length ≤ cap := ownsRow_cap (h.own 3 _ rfl)
  obtain ⟨a5, c5, rfl, hc5⟩ : ∃ X cap, P = .slice X s.pair.length cap ∧ s.pair.length ≤ cap := ownsRow_cap (h.own 4 _ rfl)
  exact ⟨a1, a2, a3, a4, a5, c1, c2, c3, c4, c5, rfl, Rd.of_own (h.own 0 _ rfl), Rd.of_own (h.own 1 _ rfl), Rd.of_own (h.own 2 _ rfl), Rd.of_own (h.own 3 _ rfl), Rd.of_own (h.own 4 _ rfl), hc1⟩
theorem Rd.kp {w w' : World} {K : Nat → Prop} {B : Nat} {A : Option Addr} {xs : List Value} (h : Rd w B A xs) (hk : Kp K w w') (hKB : ∀ k, k < B → K k) : Rd w' B A xs := h.below (hk.below hKB)

theorem rws_nil {w : World} {K : Nat → Prop} {g : Nat} {rows : List Row} (hall : ∀ r ∈ rows, r.v = .slice none 0 0 ∧ r.n = 0 ∧ r.xs = []) (hk : ∀ k, K k → k ≠ g ∧ k < w.heap.size) (hg : g < w.heap.size) : Rws w K g rows := by
  have hm : ∀ (i : Nat) (r : Row), rows[i]? = some r → r.v = .slice none 0 0 ∧ r.n = 0 ∧ r.xs = [] := fun i r hi => hall r (List.mem_of_getElem? hi)
  refine ⟨fun i r hi => ?_, fun i j r q _ hi _ => .inl ?_, fun i r hi => ?_, fun i r k hi _ => ?_, hk, hg⟩
  · obtain ⟨h1, h2, h3⟩ := hm i r hi
    rw [h1, h2, h3]
    exact World.ownsRow_nil w 0 r.t r.size
  · rw [(hm i r hi).1]; rfl
  · rw [(hm i r hi).1]; intro e; cases e
  · rw [(hm i r hi).1]; intro e; cases e
/-- A kept block is written anew. -/
theorem Rws.setRow {w : World} {K : Nat → Prop} {g : Nat} {rows : List Row} (h : Rws w K g rows) {k : Nat} (hk : K k) (cs : Array Value) : Rws (w.setRow k cs) K g rows :=
  ⟨fun j r hj => (h.own j r hj).kept (row := some k) ⟨rfl, rfl, rfl, by simp, fun i _ hne => setRow_other w k i cs (fun e => hne (by rw [e]))⟩ (.inr (h.off j r k hj hk)), h.ap, h.offg, h.off,
    fun i hi => ⟨(h.kg i hi).1, by simpa using (h.kg i hi).2⟩, by simpa using h.gl⟩
theorem run_start {w : World} {K : Nat → Prop} (c : Cst) (hk : ∀ k, K k → k < w.heap.size) :
    RunAt (w.alloc (.cells (rarr (.slice none 0 0) (.slice none 0 0) (.slice none 0 0) (.slice none 0 0) (.slice none 0 0) c St.zero) 57)) K w.heap.size c St.zero := by
  refine ⟨_, _, _, _, _, Blk.new _ _ _, rws_nil (fun r hr => ?_) (fun k h => ⟨by have := hk k h; omega, by have := hk k h; simp; omega⟩) (by simp)⟩
  simp only [rrows, St.zero, List.mem_cons, List.not_mem_nil, or_false] at hr
  rcases hr with rfl | rfl | rfl | rfl | rfl <;> exact ⟨rfl, rfl, rfl⟩
theorem okk_zero (c : Cst) (nv nl : Nat) (h1 : 1 ≤ c.locs) (h3 : c.locs ≤ 3) : Okk c nv nl St.zero 0 :=
  ⟨h1, h3, Nat.le_refl _, rfl, rfl, rfl, rfl, ⟨by decide, by decide⟩, ⟨i64_zero, i64_zero, i64_zero, i64_zero⟩, Nat.zero_le _, Nat.zero_le _, ⟨by decide, by decide⟩⟩
theorem ret_cells {P : Program} {fn : Func} {R : Ending → World → Prop} {a : Act} {W : World} {b : Nat} {cs : Array Value} {t : TypeId} (hres : ∀ W, Blk W b cs t → (results fn a.tmps).run P W = .ok (.agg cs) W)
    (hB : Blk W b cs t) (hd : a.defers = []) (hR : R (.returned (.agg cs)) W) : bodyPost P fn R .ret a W := bodyPost_ret (hres W hB) hd hR
theorem stepF_cases (x : In) : stepF x = 30 ∨ stepF x = 31 ∨ stepF x = 32 ∨ stepF x = 33 ∨ stepF x = 34 ∨ stepF x = 35 := by
  unfold stepF
  split
  · exact .inl rfl
  · split
    · exact .inr (.inl rfl)
    · split
      · exact .inr (.inr (.inl rfl))
      · split
        · exact .inr (.inr (.inr (.inl rfl)))
        · split
          · exact .inr (.inr (.inr (.inr (.inl rfl))))
          · exact .inr (.inr (.inr (.inr (.inr rfl))))
/-- What a call of Run hands back. -/
def RunRes (W : World) (s : St) (e : Ending) (w' : World) : Prop := (∃ v, e = .returned v ∧ TrAt w' w'.heap.size v s) ∧ Below W.heap.size W w'

abbrev nilS : Value := .slice none 0 0
theorem nil_trace : (#[nilS, nilS, nilS, nilS, nilS, .int .i64 0, .int .i64 0, .int .i64 0, .int .i64 0, .int .u32 0, .int .u32 0, .int .u32 0, .int .u32 0, .int .i64 0, .int .i64 0, .int .i64 0] : Array Value) = tarr nilS nilS nilS nilS nilS St.zero := rfl
theorem tarr_one (a1 a2 a3 a4 a5 : Option Addr) (n1 c1 n2 c2 n3 c3 n4 c4 n5 c5 : Nat) (s : St) : (tarr (.slice a1 n1 c1) (.slice a2 n2 c2) (.slice a3 n3 c3) (.slice a4 n4 c4) (.slice a5 n5 c5) s).all (·.oneCell') = true := by
  rw [Array.all_eq_true_iff_forall_mem]
  intro v hv
  have hv : v ∈ (tarr (.slice a1 n1 c1) (.slice a2 n2 c2) (.slice a3 n3 c3) (.slice a4 n4 c4) (.slice a5 n5 c5) s).toList := by simpa using hv
  simp only [tarr, List.mem_cons, List.not_mem_nil, or_false] at hv
  rcases hv with rfl | rfl | rfl | rfl | rfl | rfl | rfl | rfl | rfl | rfl | rfl | rfl | rfl | rfl | rfl | rfl <;> rfl
theorem nil_one : (#[nilS, nilS, nilS, nilS, nilS, .int .i64 0, .int .i64 0, .int .i64 0, .int .i64 0, .int .u32 0, .int .u32 0, .int .u32 0, .int .u32 0, .int .i64 0, .int .i64 0, .int .i64 0] : Array Value).all (·.oneCell') = true := tarr_one none none none none none 0 0 0 0 0 0 0 0 0 0 St.zero
theorem info_trace : (Try.prog.info? 40).map (·.size) = some 16 := by kernel_rfl

set_option maxHeartbeats 6400000 in
theorem run_not (A : Option Addr) (th : List In) (tc : Nat) (locs : Int) (VA : Option Addr) (vn vc : Nat) (LA : Option Addr) (ln lc : Nat) (w : World) (hr : Rd w w.heap.size A (icells th)) 
    (hl : th.length ≤ 140737488351232) (hlocs : locs ≤ 9223372036854775807) (hm : mayTh th locs = false) :
    Calls Try.prog 12 #[.slice A th.length tc, .int .i64 locs, .slice VA vn vc, .slice LA ln lc] w (RunRes w St.zero) := by
  have hmay := fun w' h => mayth_any A th tc locs w' h hl hlocs
  rw [hm] at hmay
  clear hm
  have hW := Blk.new w #[nilS, nilS, nilS, nilS, nilS, .int .i64 0, .int .i64 0, .int .i64 0, .int .i64 0, .int .u32 0, .int .u32 0, .int .u32 0, .int .u32 0, .int .i64 0, .int .i64 0, .int .i64 0] 40
  have hw : Below w.heap.size w (w.alloc (.cells #[nilS, nilS, nilS, nilS, nilS, .int .i64 0, .int .i64 0, .int .i64 0, .int .i64 0, .int .u32 0, .int .u32 0, .int .u32 0, .int .u32 0, .int .i64 0, .int .i64 0, .int .i64 0] 40)) := (Below.refl _ _).alloc (Nat.le_refl _) _
  go_enter Try.func12, Try.ntmps12
  go_wp2_with fail
  refine (hmay _ (hr.next _)).mono ?_
  rintro e w1 ⟨rfl, hb1⟩
  have hb := below_next hw hb1
  have hB := hW.later hb1
  clear hW hw hb1 hmay
  go_wp2_with ((with_reducible refine wpList_store_row rfl 40 (.tmp 8) (.tmp 15) rfl w.heap.size #[nilS, nilS, nilS, nilS, nilS, .int .i64 0, .int .i64 0, .int .i64 0, .int .i64 0, .int .u32 0, .int .u32 0, .int .u32 0, .int .u32 0, .int .i64 0, .int .i64 0, .int .i64 0] ?c1 ?c2 40 _ hB ?c3 ?c4 ?c5 ?_))
  case c1 => rfl
  case c2 => rfl
  case c3 => exact info_trace
  case c4 => rfl
  case c5 => exact nil_one
  go_wp2_with fail
  have hB2 := setRow_heap w1 w.heap.size _ #[nilS, nilS, nilS, nilS, nilS, .int .i64 0, .int .i64 0, .int .i64 0, .int .i64 0, .int .u32 0, .int .u32 0, .int .u32 0, .int .u32 0, .int .i64 0, .int .i64 0, .int .i64 0] _ _ hB
  have hb2 := below_setRow (g := w.heap.size) hb (Nat.le_refl _) #[nilS, nilS, nilS, nilS, nilS, .int .i64 0, .int .i64 0, .int .i64 0, .int .i64 0, .int .u32 0, .int .u32 0, .int .u32 0, .int .u32 0, .int .i64 0, .int .i64 0, .int .i64 0]
  refine bodyPost_ret (results_cell_row (p := 8) (ty := 40) rfl _ _ w.heap.size 40 _ _ _ (by rfl) hB2 Try.underlying40 rfl info_trace) rfl ⟨⟨_, rfl, ?_⟩, hb2⟩
  exact ⟨none, none, none, none, none, 0, 0, 0, 0, 0, rfl, Rd.nil_, Rd.nil_, Rd.nil_, Rd.nil_, Rd.nil_, Nat.le_refl _⟩

set_option maxHeartbeats 25600000 in
theorem run_may (A : Option Addr) (th : List In) (tc : Nat) (locs : Int) (VA : Option Addr) (vals : List Int) (vc : Nat) (LA : Option Addr) (lucks : List Bool) (lc : Nat) (w : World) (hr : Rd w w.heap.size A (icells th)) (hrv : Rd w w.heap.size VA (is vals)) (hrl : Rd w w.heap.size LA (bs lucks))
    (hm : mayTh th locs = true) (hvl : vals.length ≤ 1000) (hll : lucks.length ≤ 1000) (hvi : ∀ v ∈ vals, I64 v) :
    Calls Try.prog 12 #[.slice A th.length tc, .int .i64 locs, .slice VA vals.length vc, .slice LA lucks.length lc] w (RunRes w (runL ⟨locs, .slice VA vals.length vc, .slice LA lucks.length lc⟩ vals lucks th St.zero)) := by
  obtain ⟨h8, h1, h3, _⟩ := mayTh_parts hm
  have hxs := Lib.hid (mayTh_inOk hm)
  have hvs := Lib.hid hvi
  have hmay := fun w' h => mayth_any A th tc locs w' h (by omega) (by omega)
  rw [hm] at hmay
  clear hm hvi
  have hW := Blk.new w #[nilS, nilS, nilS, nilS, nilS, .int .i64 0, .int .i64 0, .int .i64 0, .int .i64 0, .int .u32 0, .int .u32 0, .int .u32 0, .int .u32 0, .int .i64 0, .int .i64 0, .int .i64 0] 40
  have hw : Below w.heap.size w (w.alloc (.cells #[nilS, nilS, nilS, nilS, nilS, .int .i64 0, .int .i64 0, .int .i64 0, .int .i64 0, .int .u32 0, .int .u32 0, .int .u32 0, .int .u32 0, .int .i64 0, .int .i64 0, .int .i64 0] 40)) := (Below.refl _ _).alloc (Nat.le_refl _) _
  obtain ⟨c, hc⟩ : ∃ c : Cst, c = ⟨locs, .slice VA vals.length vc, .slice LA lucks.length lc⟩ := ⟨_, rfl⟩
  have ok0 : Okk c vals.length lucks.length St.zero 0 := okk_zero c _ _ (by rw [hc]; exact h1) (by rw [hc]; exact h3)
  have hcv : c.va = .slice VA vals.length vc := by rw [hc]
  have hcl : c.la = .slice LA lucks.length lc := by rw [hc]
  obtain ⟨S, hS⟩ : ∃ S, runL c vals lucks th St.zero = S := ⟨_, rfl⟩
  have HS : Hid (runL ⟨locs, .slice VA vals.length vc, .slice LA lucks.length lc⟩ vals lucks th St.zero = S) := by unfold Hid; rw [← hc]; exact hS
  have Hc := Lib.hid hc
  have Hcv := Lib.hid hcv
  have Hcl := Lib.hid hcl
  have HS0 := Lib.hid hS
  clear hS hc hcv hcl
  go_enter Try.func12, Try.ntmps12
  go_wp2_with fail
  refine (hmay _ (hr.next _)).mono ?_
  rintro e w1 ⟨rfl, hb1⟩
  have hs1 : w.heap.size + 1 ≤ w1.heap.size := by have := hb1.size; simp at this; omega
  have hb := below_next hw hb1
  have hB := hW.later hb1
  have hr1 := hr.below hb
  have hrv1 := hrv.below hb
  have hrl1 := hrl.below hb
  have hA1 := run_start (w := w1) (K := fun k => k ≤ w.heap.size) c (fun k hk => by omega)
  have hk1 : Kp (fun k => k ≤ w.heap.size) w1 (w1.alloc (.cells (rarr nilS nilS nilS nilS nilS c St.zero) 57)) := (Kp.refl _ _).alloc (fun k hk => by omega) _
  rw [show rarr nilS nilS nilS nilS nilS c St.zero = #[nilS, nilS, nilS, nilS, nilS, .int .i64 0, .int .i64 0, .int .i64 0, .int .i64 0, .int .u32 0, .int .u32 0, .int .u32 0, .int .u32 0, .int .i64 0, .int .i64 0, .int .i64 0, .int .i64 c.locs, c.va, c.la, .int .u32 0, .int .i64 (-1), .int .i64 0] from rfl, Hcv.out, Hcl.out, show c.locs = locs from by rw [Hc.out]] at hA1 hk1
  clear hW hw hb1 hmay
  go_wp2_with fail
  obtain ⟨w2, hw2⟩ : ∃ w2, (w1.alloc (.cells #[nilS, nilS, nilS, nilS, nilS, .int .i64 0, .int .i64 0, .int .i64 0, .int .i64 0, .int .u32 0, .int .u32 0, .int .u32 0, .int .u32 0, .int .i64 0, .int .i64 0, .int .i64 0, .int .i64 locs, .slice VA vals.length vc, .slice LA lucks.length lc, .int .u32 0, .int .i64 (-1), .int .i64 0] 57)) = w2 := ⟨_, rfl⟩
  rw [hw2] at hA1 hk1
  rw [hw2]
  clear hw2
  go_loopw [10] (fun i wr => ∃ k : Nat, k ≤ th.length ∧ i = .int .i64 k ∧ ∃ s, RunAt wr (fun k => k ≤ w.heap.size) w1.heap.size c s ∧ Okk c vals.length lucks.length s k ∧ Hid (runL c vals lucks (th.drop k) s = S) ∧ Kp (fun k => k ≤ w.heap.size) w1 wr)
    (fun i _ => th.length - (intOf i).toNat)
  case atStart => exact ⟨0, by omega, rfl, St.zero, hA1, ok0, HS0, hk1⟩
  case round =>
    obtain ⟨k, hk, rfl, s, hA, ok, HR, hkp⟩ := hrel
    have hAA := hA
    obtain ⟨E, A1, D, C, P, hBr, hRr⟩ := hAA
    have hgl := hBr.lt
    have q15 := hBr.cell 15 (.int .i64 s.more) rfl
    have q21 := hBr.cell 21 (.int .i64 s.skip) rfl
    have hfz := hBr.frozen
    have hnk : ¬(fun k => k ≤ w.heap.size) w1.heap.size := by show ¬(w1.heap.size ≤ w.heap.size); omega
    have hsk := ok.sk
    by_cases hgo : k < th.length ∧ s.more = 0
    · obtain ⟨hlt, hmo⟩ := hgo
      have t1 : (s.more == 0) = true := by simp [hmo]
      have hdrop : th.drop k = th[k] :: th.drop (k + 1) := List.drop_eq_getElem_cons hlt
      by_cases hs0 : 0 < s.skip
      · have HR2 : Hid (runL c vals lucks (th.drop (k + 1)) { s with skip := s.skip - 1 } = S) := by
          unfold Hid; rw [← HR.out, hdrop, runL, if_neg (by simp [hmo]), if_pos hs0]
        clear hdrop hmo
        go_wp2_with fail
        go_roundw
        case rel => exact ⟨k + 1, by omega, by go_num, { s with skip := s.skip - 1 }, ⟨E, A1, D, C, P, RunAt.set1 hBr hRr 21 (.int .i64 (s.skip - 1)) rfl rfl⟩, { ok.more_ with sk := ⟨by show (0 : Int) ≤ s.skip - 1; omega, by show s.skip - 1 ≤ 1000; omega⟩ }, HR2, hkp.set hnk _ _⟩
        case measure => simp [intOf]; omega
      · have HR2 : Hid (runL c vals lucks (th.drop (k + 1)) (s.step c vals lucks th[k]) = S) := by
          unfold Hid; rw [← HR.out, hdrop, runL, if_neg (by simp [hmo]), if_neg hs0]
        have hxk := hxs.out _ (List.getElem_mem hlt)
        have ok2 := ok.step th[k] hxk hvs.out
        obtain ⟨bt, ot, rfl, hbt, hct⟩ := hr1.at_in hlt
        have hKb : (fun k => k ≤ w.heap.size) bt := by show bt ≤ w.heap.size; omega
        have hI := (hct k hlt).block (hkp.block bt hKb)
        obtain ⟨c0, c1, c2, c3, c4, c5⟩ := hI
        have hI := (hct k hlt).block (hkp.block bt hKb)
        have hbW : bt < wr.heap.size := by have := (hA.kg bt hKb).2; exact this
        have hdoes := fun w => does_any w1.heap.size th[k] w
        have hst := fun w9 h9 (hk9 : Kp (fun k => k ≤ w.heap.size) w1 w9) => step_any (fun k => k ≤ w.heap.size) w1.heap.size w.heap.size k c s th[k] VA LA vc lc vals lucks w9 h9 ok (by omega) hxk Hcv.out Hcl.out (hrv1.kp hk9 (fun k hk => by show k ≤ _; omega)) (hrl1.kp hk9 (fun k hk => by show k ≤ _; omega)) (fun k hk => by show k ≤ _; omega) hvl hll
        have i0 : (0 : Int) ≤ (k : Int) := by omega
        have i1 : (k : Int) < (th.length : Int) := by omega
        have Hct := Lib.hid hct
        obtain ⟨s2, hs2⟩ : ∃ s2, s.step c vals lucks th[k] = s2 := ⟨_, rfl⟩
        rw [hs2] at ok2 HR2 hst
        have hR0 := hA.kg
        clear hdrop hmo hct hs2 hnk hfz
        unfold In.arr at *
        unfold doesV at hdoes
        have hcases := stepF_cases th[k]
        generalize stepF th[k] = F at *
        rcases hcases with rfl | rfl | rfl | rfl | rfl | rfl
        all_goals
          go_wp2_with fail
          go_region_held3 (fun w' => w'.cell? ⟨bt, ot + k * 6, none⟩ = some (.int .i64 th[k].op) ∧ w'.cell? ⟨bt, ot + k * 6 + 1, none⟩ = some (.int .i64 th[k].d) ∧ w'.cell? ⟨bt, ot + k * 6 + 2, none⟩ = some (.int .i64 th[k].a) ∧ w'.cell? ⟨bt, ot + k * 6 + 3, none⟩ = some (.int .i64 th[k].b) ∧ w'.cell? ⟨bt, ot + k * 6 + 4, none⟩ = some (.int .i64 th[k].loc) ∧ w'.cell? ⟨bt, ot + k * 6 + 5, none⟩ = some (.int .i64 th[k].imm))
            (first | exact ⟨c0, c1, c2, c3, c4, c5⟩)
            (first
                | (go_at_call 19; refine (hdoes _).mono ?_; rintro e w3 ⟨rfl, hb3⟩; have hI3 := hI.drew.below hb3 hbW; have hA3 := hA.drew.later hb3; have hk3 := hkp.drew.trans (Kp.of_below hb3 (fun k hk => (hR0 k hk).2)); obtain ⟨c0, c1, c2, c3, c4, c5⟩ := hI3; have hI3 := InAt.mk c0 c1 c2 c3 c4 c5)
                | (go_at_call 30; refine (hst _ hA3 hk3).mono ?_; rintro e w4 ⟨rfl, hr4, hk4⟩; have hI4 := hI3.block (hk4.block bt hKb); obtain ⟨c0, c1, c2, c3, c4, c5⟩ := hI4)
                | (go_at_call 31; refine (hst _ hA3 hk3).mono ?_; rintro e w4 ⟨rfl, hr4, hk4⟩; have hI4 := hI3.block (hk4.block bt hKb); obtain ⟨c0, c1, c2, c3, c4, c5⟩ := hI4)
                | (go_at_call 32; refine (hst _ hA3 hk3).mono ?_; rintro e w4 ⟨rfl, hr4, hk4⟩; have hI4 := hI3.block (hk4.block bt hKb); obtain ⟨c0, c1, c2, c3, c4, c5⟩ := hI4)
                | (go_at_call 33; refine (hst _ hA3 hk3).mono ?_; rintro e w4 ⟨rfl, hr4, hk4⟩; have hI4 := hI3.block (hk4.block bt hKb); obtain ⟨c0, c1, c2, c3, c4, c5⟩ := hI4)
                | (go_at_call 34; refine (hst _ hA3 hk3).mono ?_; rintro e w4 ⟨rfl, hr4, hk4⟩; have hI4 := hI3.block (hk4.block bt hKb); obtain ⟨c0, c1, c2, c3, c4, c5⟩ := hI4)
                | (go_at_call 35; refine (hst _ hA3 hk3).mono ?_; rintro e w4 ⟨rfl, hr4, hk4⟩; have hI4 := hI3.block (hk4.block bt hKb); obtain ⟨c0, c1, c2, c3, c4, c5⟩ := hI4))
          all_goals
            have hk5 := hk3.trans hk4
            go_wp2_with fail
            go_roundw
            case rel => exact ⟨k + 1, by omega, by go_num, s2, hr4, ok2, HR2, hk5⟩
            case measure => simp [intOf]; omega
    · have HE : Hid (s = S) := by
        unfold Hid
        rw [← HR.out]
        by_cases hmo : s.more = 0
        · have : th.length ≤ k := by
            rcases Nat.lt_or_ge k th.length with h | h
            · exact absurd ⟨h, hmo⟩ hgo
            · exact h
          rw [List.drop_eq_nil_of_le this]; rfl
        · rw [runL_more _ _ _ _ _ hmo]
      have hBt := hkp.blk (k := w.heap.size) (by show w.heap.size ≤ w.heap.size; omega) hB
      have hbw := hb.trans (hkp.below (B := w.heap.size) (fun k hk => by show k ≤ _; omega))
      have hor : ¬(k < th.length) ∨ (k < th.length ∧ (s.more == 0) = false) := by
        rcases Nat.lt_or_ge k th.length with h | h
        · exact .inr ⟨h, by rw [beq_eq_false_iff_ne]; exact fun h2 => hgo ⟨h, h2⟩⟩
        · exact .inl (by omega)
      clear hgo
      obtain ⟨a1, k1, rfl⟩ : ∃ X cap, E = .slice X s.ev.length cap := ownsRow_slice (hRr.own 0 _ rfl)
      obtain ⟨a2, k2, rfl⟩ : ∃ X cap, A1 = .slice X s.addr.length cap := ownsRow_slice (hRr.own 1 _ rfl)
      obtain ⟨a3, k3, rfl⟩ : ∃ X cap, D = .slice X s.data.length cap := ownsRow_slice (hRr.own 2 _ rfl)
      obtain ⟨a4, k4, rfl⟩ : ∃ X cap, C = .slice X s.ctrl.length cap := ownsRow_slice (hRr.own 3 _ rfl)
      obtain ⟨a5, k5, rfl⟩ : ∃ X cap, P = .slice X s.pair.length cap := ownsRow_slice (hRr.own 4 _ rfl)
      have htr := tr_of_run hRr
      have q0 := hBr.cell 0 (.slice a1 s.ev.length k1) rfl
      have q1 := hBr.cell 1 (.slice a2 s.addr.length k2) rfl
      have q2 := hBr.cell 2 (.slice a3 s.data.length k3) rfl
      have q3 := hBr.cell 3 (.slice a4 s.ctrl.length k4) rfl
      have q4 := hBr.cell 4 (.slice a5 s.pair.length k5) rfl
      obtain ⟨q5, q6, q7, q8, q9, q10, q11, q12⟩ := hBr.rfl_
      have q13 := hBr.cell 13 (.int .i64 (s.vals : Int)) rfl
      have q14 := hBr.cell 14 (.int .i64 (s.lucks : Int)) rfl
      have HS2 : Hid (runL ⟨locs, .slice VA vals.length vc, .slice LA lucks.length lc⟩ vals lucks th St.zero = s) := by unfold Hid; rw [HS.out, HE.out]
      clear ok hA HR HE HS HS0 hxs hvs Hc Hcv Hcl
      rcases hor with hlt | ⟨hlt, t1⟩
      all_goals
        have hc3 : (Try.prog.info? 40).map (·.size) = some (tarr (.slice a1 s.ev.length k1) (.slice a2 s.addr.length k2) (.slice a3 s.data.length k3) (.slice a4 s.ctrl.length k4) (.slice a5 s.pair.length k5) s).size := info_trace
        have hc5 : (tarr (.slice a1 s.ev.length k1) (.slice a2 s.addr.length k2) (.slice a3 s.data.length k3) (.slice a4 s.ctrl.length k4) (.slice a5 s.pair.length k5) s).all (·.oneCell') = true := tarr_one _ _ _ _ _ _ _ _ _ _ _ _ _ _ _ _
        have Hc3 := Lib.hid hc3
        have Hc5 := Lib.hid hc5
        clear hc3 hc5
        go_wp2_with ((refine wpList_store_row rfl 40 (.tmp 8) (.tmp 61) rfl w.heap.size (tarr (.slice a1 s.ev.length k1) (.slice a2 s.addr.length k2) (.slice a3 s.data.length k3) (.slice a4 s.ctrl.length k4) (.slice a5 s.pair.length k5) s) rfl rfl 40 _ hBt Hc3.out rfl Hc5.out ?_))
        go_wp2_with fail
        have hB2 := setRow_heap wr w.heap.size _ (tarr (.slice a1 s.ev.length k1) (.slice a2 s.addr.length k2) (.slice a3 s.data.length k3) (.slice a4 s.ctrl.length k4) (.slice a5 s.pair.length k5) s) _ _ hBt
        have hb2 := below_setRow (g := w.heap.size) hbw (Nat.le_refl _) (tarr (.slice a1 s.ev.length k1) (.slice a2 s.addr.length k2) (.slice a3 s.data.length k3) (.slice a4 s.ctrl.length k4) (.slice a5 s.pair.length k5) s)
        have hR2 : Rws (wr.setRow w.heap.size (tarr (.slice a1 s.ev.length k1) (.slice a2 s.addr.length k2) (.slice a3 s.data.length k3) (.slice a4 s.ctrl.length k4) (.slice a5 s.pair.length k5) s)) (fun k => k ≤ w.heap.size) w1.heap.size (rrows (.slice a1 s.ev.length k1) (.slice a2 s.addr.length k2) (.slice a3 s.data.length k3) (.slice a4 s.ctrl.length k4) (.slice a5 s.pair.length k5) s) := hRr.setRow (by show w.heap.size ≤ w.heap.size; omega) _
        refine bodyPost_ret (results_cell_row (p := 8) (ty := 40) rfl _ _ w.heap.size 40 _ _ _ (by rfl) hB2 Try.underlying40 rfl info_trace) rfl ⟨⟨_, rfl, ?_⟩, hb2⟩
        rw [HS2.out]
        exact tr_of_run hR2

theorem run_any (A : Option Addr) (th : List In) (tc : Nat) (locs : Int) (VA : Option Addr) (vals : List Int) (vc : Nat) (LA : Option Addr) (lucks : List Bool) (lc : Nat) (w : World) (hr : Rd w w.heap.size A (icells th)) (hrv : Rd w w.heap.size VA (is vals)) (hrl : Rd w w.heap.size LA (bs lucks))
    (hl : th.length ≤ 140737488351232) (hlocs : locs ≤ 9223372036854775807) (hvl : vals.length ≤ 1000) (hll : lucks.length ≤ 1000) (hvi : ∀ v ∈ vals, I64 v) :
    Calls Try.prog 12 #[.slice A th.length tc, .int .i64 locs, .slice VA vals.length vc, .slice LA lucks.length lc] w (RunRes w (runS ⟨locs, .slice VA vals.length vc, .slice LA lucks.length lc⟩ th vals lucks)) := by
  unfold runS
  by_cases hm : mayTh th locs = true
  · rw [if_pos hm]; exact run_may A th tc locs VA vals vc LA lucks lc w hr hrv hrl hm hvl hll hvi
  · rw [if_neg hm]; exact run_not A th tc locs VA vals.length vc LA lucks.length lc w hr hl hlocs (by simpa using hm)

end Go.Proofs.Ytgefngjfpodiiaa
