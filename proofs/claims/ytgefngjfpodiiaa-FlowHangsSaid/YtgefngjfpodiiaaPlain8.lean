/-
  What a thread does, plainly: what holds at its begin and stays true holds at its end; the values of loads.
-/
import Derived.Test.YtgefngjfpodiiaaFlowR
namespace Go.Proofs.Ytgefngjfpodiiaa
open Go.RowKit
set_option linter.unusedVariables false

theorem runL_inv {c : Cst} {vals : List Int} {lucks : List Bool} (P : St → Prop) (th : List In) (hskip : ∀ s k, P s → P { s with skip := k }) (hstep : ∀ s x, x ∈ th → P s → s.more = 0 → P (s.step c vals lucks x)) (s : St) (h0 : P s) :
    P (runL c vals lucks th s) := by
  induction th generalizing s with
  | nil => exact h0
  | cons x t ih =>
    have hs' := fun s y (hy : y ∈ t) => hstep s y (List.mem_cons_of_mem _ hy)
    rw [runL]
    split
    · exact h0
    · split
      · exact ih hs' _ (hskip _ _ h0)
      · exact ih hs' _ (hstep s x List.mem_cons_self h0 (by simpa using ‹¬s.more ≠ 0›))
theorem runS_inv {c : Cst} {vals : List Int} {lucks : List Bool} (P : St → Prop) (th : List In) (hskip : ∀ s k, P s → P { s with skip := k }) (hstep : ∀ s x, x ∈ th → InOk x → P s → s.more = 0 → P (s.step c vals lucks x)) (h0 : P St.zero) :
    P (runS c th vals lucks) := by
  unfold runS
  by_cases hm : mayTh th c.locs = true
  · rw [if_pos hm]
    exact runL_inv P th hskip (fun s x hx => hstep s x hx (mayTh_inOk hm x hx)) _ h0
  · rw [if_neg hm]; exact h0

/-- What a trace has as to lengths. -/
theorem runS_okk {locs : Int} {va la : Value} {th : List In} {vals : List Int} {lucks : List Bool} (hv : ∀ v ∈ vals, I64 v) (h1 : 1 ≤ locs) (h3 : locs ≤ 3) : ∃ n, n ≤ 8 ∧ Okk ⟨locs, va, la⟩ vals.length lucks.length (runS ⟨locs, va, la⟩ th vals lucks) n := by
  have key : ∀ (l : List In) (s : St) (n : Nat), (∀ x ∈ l, InOk x) → Okk ⟨locs, va, la⟩ vals.length lucks.length s n → Okk ⟨locs, va, la⟩ vals.length lucks.length (runL ⟨locs, va, la⟩ vals lucks l s) (n + l.length) := by
    intro l
    induction l with
    | nil => intro s n _ h; exact h
    | cons x t ih =>
      intro s n hx h
      have ht := fun y hy => hx y (List.mem_cons_of_mem _ hy)
      rw [runL]
      split
      · have hev := h.ev
        exact { h with ev := by simp; omega }
      · split
        · have hsk := h.sk
          have := ih { s with skip := s.skip - 1 } (n + 1) ht { h.more_ with sk := ⟨by show (0 : Int) ≤ s.skip - 1; omega, by show s.skip - 1 ≤ 1000; omega⟩ }
          rw [List.length_cons, show n + (t.length + 1) = n + 1 + t.length by omega]; exact this
        · have := ih _ (n + 1) ht (h.step x (hx x List.mem_cons_self) hv)
          rw [List.length_cons, show n + (t.length + 1) = n + 1 + t.length by omega]; exact this
  unfold runS
  by_cases hm : mayTh th locs = true
  · rw [if_pos hm]
    have h := key th St.zero 0 (mayTh_inOk hm) (okk_zero _ _ _ h1 h3)
    rw [Nat.zero_add] at h
    exact ⟨th.length, (mayTh_parts hm).1, h⟩
  · rw [if_neg hm]; exact ⟨0, by omega, okk_zero _ _ _ h1 h3⟩

/-- Fences are no loads, nor stores. -/
theorem fenceEv_kind (x : In) (h : x.op = 11 → 0 ≤ x.imm ∧ x.imm ≤ 2) : 3 ≤ (fenceEv x).kind ∧ (fenceEv x).kind ≤ 6 := by
  unfold fenceEv
  dsimp only
  split
  · have := h (by assumption); omega
  · omega

/-- The values of loads are those that were taken. -/
structure InvV (vals : List Int) (s : St) : Prop where
  take : (s.ev.filter (fun e => e.kind == 1)).map (·.val) = vals.take s.vals
  le : s.vals ≤ vals.length
  more : 0 ≤ s.more ∧ s.more ≤ 2

theorem InvV.step {c : Cst} {vals : List Int} {lucks : List Bool} {s : St} (h : InvV vals s) (x : In) (hx : InOk x) : InvV vals (s.step c vals lucks x) := by
  have hst : ∀ (s' : St) (p : Int), InvV vals s' → InvV vals (s'.store c x p) := fun s' p h' => by
    refine ⟨?_, h'.le, h'.more⟩
    have := h'.take
    simp only [St.store, St.push, storeEv, List.filter_append, List.map_append]
    rw [this]; simp
  unfold St.step
  split
  · unfold St.load
    split
    · rename_i v hv
      obtain ⟨hlt, rfl⟩ := List.getElem?_eq_some_iff.1 hv
      refine ⟨?_, by show s.vals + 1 ≤ _; omega, h.more⟩
      simp only [St.took, St.push, loadEv, List.filter_append, List.map_append]
      rw [h.take, List.take_succ_eq_append_getElem hlt]; simp
    · exact ⟨h.take, h.le, by show (0 : Int) ≤ _; dsimp only; omega, by dsimp only; omega⟩
  · split
    · unfold St.excl
      split
      · split
        · exact ⟨h.take, h.le, by show (0 : Int) ≤ _; dsimp only; omega, by dsimp only; omega⟩
        · have := hst { s with last := -1, lucks := s.lucks + 1 } s.last ⟨h.take, h.le, h.more⟩
          exact ⟨this.take, this.le, this.more⟩
        · exact ⟨h.take, h.le, h.more⟩
      · exact ⟨h.take, h.le, h.more⟩
    · split
      · exact hst s (-1) h
      · split
        · refine ⟨?_, h.le, h.more⟩
          have hk := fenceEv_kind x hx.dmb
          have : ((fenceEv x).kind == 1) = false := by rw [beq_eq_false_iff_ne]; omega
          simp only [St.fence, St.push, List.filter_append, List.map_append]
          rw [h.take]; simp [this]
        · split
          · exact ⟨h.take, h.le, h.more⟩
          · exact ⟨h.take, h.le, h.more⟩
theorem runS_invV (c : Cst) (th : List In) (vals : List Int) (lucks : List Bool) : InvV vals (runS c th vals lucks) :=
  runS_inv (InvV vals) th (fun s k h => ⟨h.take, h.le, h.more⟩) (fun s x _ hx h _ => h.step x hx) ⟨by simp [St.zero], Nat.zero_le _, by decide, by decide⟩

/-- An instruction that takes nothing. -/
def quietI (x : In) : Bool := x.op != 5 && x.op != 7 && x.op != 9 && x.op != 10
def quietTo (th : List In) (k : Nat) : Bool := (th.take k).all quietI
theorem quietTo_succ (th : List In) (k : Nat) (h : k < th.length) : quietTo th (k + 1) = (quietTo th k && quietI th[k]) := by
  unfold quietTo; rw [List.take_succ_eq_append_getElem h, List.all_append, List.all_cons, List.all_nil, Bool.and_true]
theorem quiet_runs (c : Cst) (th : List In) (vals : List Int) (lucks : List Bool) (hq : quietTo th th.length = true) : (runS c th vals lucks).vals = 0 ∧ (runS c th vals lucks).lucks = 0 ∧ (runS c th vals lucks).more = 0 := by
  unfold quietTo at hq
  rw [List.take_length, List.all_eq_true] at hq
  refine runS_inv (fun s => s.vals = 0 ∧ s.lucks = 0 ∧ s.more = 0) th (fun s k h => h) (fun s x hx _ h _ => ?_) ⟨rfl, rfl, rfl⟩
  have hqx := hq x hx
  unfold quietI at hqx
  simp only [Bool.and_eq_true, bne_iff_ne] at hqx
  have hk : kindOf x.op ≠ 1 := by unfold kindOf; split <;> (try split) <;> omega
  unfold St.step
  rw [if_neg hk, if_neg hqx.2]
  split
  · exact h
  · split
    · exact h
    · split
      · exact h
      · exact h

/-- How many loads there are among the first events. -/
def readsTo (l : List Ev) (k : Nat) : Nat := ((l.take k).filter (fun e => e.kind == 1)).length
theorem readsTo_yes (l : List Ev) (k : Nat) (h : k < l.length) (hk : (l[k].kind == 1) = true) : readsTo l (k + 1) = readsTo l k + 1 := by
  unfold readsTo; rw [List.take_succ_eq_append_getElem h, List.filter_append, List.length_append, List.filter_cons, if_pos hk]; rfl
theorem readsTo_no (l : List Ev) (k : Nat) (h : k < l.length) (hk : (l[k].kind == 1) = false) : readsTo l (k + 1) = readsTo l k := by
  unfold readsTo; rw [List.take_succ_eq_append_getElem h, List.filter_append, List.length_append, List.filter_cons, if_neg (by rw [hk]; decide)]; rfl
theorem InvV.all {vals : List Int} {s : St} (h : InvV vals s) : readsTo s.ev s.ev.length = s.vals := by
  have := congrArg List.length h.take
  have hle := h.le
  simp only [List.length_map, List.length_take] at this
  unfold readsTo
  rw [List.take_length, this]; omega
theorem InvV.at {vals : List Int} {s : St} (h : InvV vals s) (k : Nat) (hk : k < s.ev.length) (h1 : (s.ev[k].kind == 1) = true) : ∃ hr : readsTo s.ev k < vals.length, vals[readsTo s.ev k] = s.ev[k].val := by
  have hsplit : s.ev.filter (fun e => e.kind == 1) = (s.ev.take k).filter (fun e => e.kind == 1) ++ (s.ev[k] :: (s.ev.drop (k + 1)).filter (fun e => e.kind == 1)) := by
    conv => lhs; rw [← List.take_append_drop k s.ev, List.drop_eq_getElem_cons hk, List.filter_append, List.filter_cons, if_pos h1]
  have ht := h.take
  rw [hsplit] at ht
  have hget := congrArg (fun l => l[readsTo s.ev k]?) ht
  simp only [List.map_append, List.map_cons] at hget
  have hl : readsTo s.ev k = (((s.ev.take k).filter (fun e => e.kind == 1)).map (·.val)).length := by unfold readsTo; simp
  rw [List.getElem?_append_right (by omega), hl, Nat.sub_self, List.getElem?_cons_zero, ← hl, List.getElem?_take] at hget
  split at hget
  · exact List.getElem?_eq_some_iff.1 hget.symm
  · cases hget

end Go.Proofs.Ytgefngjfpodiiaa
