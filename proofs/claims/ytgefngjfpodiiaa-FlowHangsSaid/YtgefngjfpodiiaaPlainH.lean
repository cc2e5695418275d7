/-
  On what events hang, plainly: on loads ahead of them alone.
-/
import Derived.Test.YtgefngjfpodiiaaPlain8
namespace Go.Proofs.Ytgefngjfpodiiaa
open Go.RowKit
set_option linter.unusedVariables false

/-- All of a's bits are b's. -/
def Sub (a b : U32) : Prop := ∀ j, a.getLsbD j = true → b.getLsbD j = true
theorem Sub.refl (a : U32) : Sub a a := fun _ h => h
theorem Sub.zero (a : U32) : Sub 0 a := fun j h => by simp at h
theorem Sub.trans {a b c : U32} (h : Sub a b) (k : Sub b c) : Sub a c := fun j hj => k j (h j hj)
theorem Sub.or {a b c : U32} (h : Sub a c) (k : Sub b c) : Sub (a ||| b) c := fun j hj => by
  rw [BitVec.getLsbD_or, Bool.or_eq_true] at hj
  exact hj.elim (h j) (k j)
theorem Sub.left (a b : U32) : Sub a (a ||| b) := fun j hj => by rw [BitVec.getLsbD_or, hj, Bool.true_or]
theorem Sub.right (a b : U32) : Sub b (a ||| b) := fun j hj => by rw [BitVec.getLsbD_or, hj, Bool.or_true]
theorem Sub.minus {a b : U32} (h : Sub a b) : minus a b = 0 := by
  apply BitVec.eq_of_getLsbD_eq
  intro j hj
  have := h j
  simp only [Go.Proofs.Ytgefngjfpodiiaa.minus, BitVec.getLsbD_and, BitVec.getLsbD_not, hj, decide_true, Bool.true_and]
  cases ha : a.getLsbD j with
  | false => simp
  | true => rw [this ha]; simp

def isRead (e : Ev) : Bool := e.kind == 1
/-- The loads among the first events, as bits. -/
def readM (l : List Ev) (k : Nat) : U32 := maskTo isRead l k
theorem readM_zero (l : List Ev) : readM l 0 = 0 := rfl
theorem readM_succ (l : List Ev) (k : Nat) (h : k < l.length) : readM l (k + 1) = if isRead l[k] then readM l k ||| bitv k else readM l k := maskTo_succ isRead l k h
theorem readM_append (l m : List Ev) (k : Nat) (h : k ≤ l.length) : readM (l ++ m) k = readM l k := by
  induction k with
  | zero => rfl
  | succ k ih => rw [readM_succ _ _ (by simp; omega), readM_succ _ _ (by omega), ih (by omega), List.getElem_append_left (by omega)]
theorem readM_snoc (l : List Ev) (e : Ev) : readM (l ++ [e]) (l ++ [e]).length = if isRead e then readM l l.length ||| bitv l.length else readM l l.length := by
  have h1 : (l ++ [e]).length = l.length + 1 := by simp
  rw [h1, readM_succ _ _ (by simp), readM_append _ _ _ (Nat.le_refl _)]
  simp
theorem readM_sub (l : List Ev) (e : Ev) : Sub (readM l l.length) (readM (l ++ [e]) (l ++ [e]).length) := by
  rw [readM_snoc]; split
  · exact Sub.left _ _
  · exact Sub.refl _

/-- The control mask ahead of an event. -/
def prevC (l : List U32) (i : Nat) : U32 := match i with | 0 => 0 | j + 1 => (l[j]?).getD 0
theorem prevC_append (l : List U32) (c : U32) (i : Nat) (h : i ≤ l.length) : prevC (l ++ [c]) i = prevC l i := by
  cases i with
  | zero => rfl
  | succ j => simp only [prevC]; rw [List.getElem?_append_left (by omega)]
theorem prevC_snoc (l : List U32) (c : U32) : prevC (l ++ [c]) (l ++ [c]).length = c := by
  rw [show (l ++ [c]).length = l.length + 1 by simp]; simp [prevC]
theorem prevC_succ (l : List U32) (k : Nat) (h : k < l.length) : prevC l (k + 1) = l[k] := by simp [prevC, h]

/-- An event, its masks and its load. -/
structure HangAt (ev : List Ev) (i : Nat) (e : Ev) (a d c pc : U32) (p : Int) : Prop where
  sa : Sub a (readM ev i)
  sd : Sub d (readM ev i)
  sc : Sub c (readM ev i)
  pc : Sub pc c
  dz : e.kind ≠ 2 → d = 0
  k1 : 1 ≤ e.kind
  k6 : e.kind ≤ 6
  th : e.thread = 0
  pl : p < i
  px : 0 ≤ p ↔ e.kind = 2 ∧ e.excl = true
  pe : 0 ≤ p → ∃ q, ev[p.toNat]? = some q ∧ q.kind = 1 ∧ q.excl = true ∧ q.loc = e.loc
theorem HangAt.append {ev : List Ev} {i : Nat} {e : Ev} {a d c pc : U32} {p : Int} (h : HangAt ev i e a d c pc p) (hi : i ≤ ev.length) (x : Ev) : HangAt (ev ++ [x]) i e a d c pc p := by
  obtain ⟨h1, h2, h3, h4, h5, h6, h7, h8, h9, h10, h11⟩ := h
  refine ⟨by rw [readM_append _ _ _ hi]; exact h1, by rw [readM_append _ _ _ hi]; exact h2, by rw [readM_append _ _ _ hi]; exact h3, h4, h5, h6, h7, h8, h9, h10, fun hp => ?_⟩
  obtain ⟨q, hq, r⟩ := h11 hp
  exact ⟨q, by rw [List.getElem?_append_left (by omega)]; exact hq, r⟩

def Fl.S (f : Fl) (m : U32) : Prop := Sub f.p0 m ∧ Sub f.p1 m ∧ Sub f.p2 m ∧ Sub f.p3 m
theorem Fl.S.dep {f : Fl} {m : U32} (h : f.S m) (n : Int) : Sub (f.dep n) m := by
  obtain ⟨h0, h1, h2, h3⟩ := h
  unfold Fl.dep
  split
  · exact h0
  · split
    · exact h1
    · split
      · exact h2
      · split
        · exact h3
        · exact Sub.zero _
theorem Fl.S.set {f : Fl} {m : U32} (h : f.S m) (n v : Int) (d : U32) (hd : Sub d m) : (f.set n v d).S m := by
  obtain ⟨h0, h1, h2, h3⟩ := h
  unfold Fl.set
  split
  · exact ⟨hd, h1, h2, h3⟩
  · split
    · exact ⟨h0, hd, h2, h3⟩
    · split
      · exact ⟨h0, h1, hd, h3⟩
      · split
        · exact ⟨h0, h1, h2, hd⟩
        · exact ⟨h0, h1, h2, h3⟩
theorem Fl.S.mono {f : Fl} {m n : U32} (h : f.S m) (k : Sub m n) : f.S n := ⟨h.1.trans k, h.2.1.trans k, h.2.2.1.trans k, h.2.2.2.trans k⟩
theorem Fl.S.doI {f : Fl} {m : U32} (h : f.S m) (x : In) : (doI f x).S m := by
  unfold Go.Proofs.Ytgefngjfpodiiaa.doI
  have ho := (h.dep x.a).or (h.dep x.b)
  split
  · exact h.set _ _ _ (Sub.zero _)
  · split
    · exact h.set _ _ _ ho
    · split
      · exact h.set _ _ _ ho
      · split
        · exact h.set _ _ _ ho
        · exact h

/-- What is true of a thread's lists. -/
structure InvH (s : St) : Prop where
  ad : s.addr.length = s.ev.length
  da : s.data.length = s.ev.length
  ct : s.ctrl.length = s.ev.length
  pr : s.pair.length = s.ev.length
  at_ : ∀ (i : Nat) (hi : i < s.ev.length), HangAt s.ev i s.ev[i] s.addr[i] s.data[i] s.ctrl[i] (prevC s.ctrl i) s.pair[i]
  lc : Sub (prevC s.ctrl s.ctrl.length) s.cur
  cu : Sub s.cur (readM s.ev s.ev.length)
  f : s.f.S (readM s.ev s.ev.length)
  la : 0 ≤ s.last → ∃ q, s.ev[s.last.toNat]? = some q ∧ q.kind = 1 ∧ q.excl = true

theorem InvH.push {s : St} (h : InvH s) (e : Ev) (a d : U32) (p : Int) (hx : HangAt s.ev s.ev.length e a d s.cur (prevC s.ctrl s.ev.length) p) : InvH (s.push e a d p) := by
  obtain ⟨h1, h2, h3, h4, h5, h6, h7, h8, h9⟩ := h
  refine ⟨by simp [St.push, h1], by simp [St.push, h2], by simp [St.push, h3], by simp [St.push, h4], fun i hi => ?_, ?_, ?_, ?_, fun hl => ?_⟩
  · simp only [St.push] at hi ⊢
    have hi' : i < s.ev.length + 1 := by simpa using hi
    rcases Nat.lt_or_ge i s.ev.length with hlt | hge
    · have := (h5 i hlt).append (Nat.le_of_lt hlt) e
      rw [List.getElem_append_left hlt, List.getElem_append_left (by omega), List.getElem_append_left (by omega), List.getElem_append_left (by omega), List.getElem_append_left (by omega), prevC_append _ _ _ (by omega)]
      exact this
    · obtain rfl : i = s.ev.length := by omega
      have e1 : (s.ev ++ [e])[s.ev.length] = e := by simp
      have e2 : (s.addr ++ [a])[s.ev.length]'(by simp; omega) = a := by simp [← h1]
      have e3 : (s.data ++ [d])[s.ev.length]'(by simp; omega) = d := by simp [← h2]
      have e4 : (s.ctrl ++ [s.cur])[s.ev.length]'(by simp; omega) = s.cur := by simp [← h3]
      have e5 : (s.pair ++ [p])[s.ev.length]'(by simp; omega) = p := by simp [← h4]
      rw [e1, e2, e3, e4, e5, prevC_append _ _ _ (by omega)]
      exact hx.append (Nat.le_refl _) e
  · show Sub (prevC (s.ctrl ++ [s.cur]) (s.ctrl ++ [s.cur]).length) s.cur
    rw [prevC_snoc]; exact Sub.refl _
  · exact h7.trans (readM_sub s.ev e)
  · exact h8.mono (readM_sub s.ev e)
  · obtain ⟨q, hq, r⟩ := h9 hl
    have hlt := (List.getElem?_eq_some_iff.1 hq).1
    exact ⟨q, by show (s.ev ++ [e])[s.last.toNat]? = some q; rw [List.getElem?_append_left hlt]; exact hq, r⟩

theorem InvH.store {s : St} (h : InvH s) (c : Cst) (x : In) (p : Int) (hp : p < s.ev.length) (hpe : 0 ≤ p → ∃ q, s.ev[p.toNat]? = some q ∧ q.kind = 1 ∧ q.excl = true ∧ q.loc = placeL s.f x c.locs) : InvH (s.store c x p) := by
  refine h.push _ _ _ _ ⟨h.f.dep _, h.f.dep _, h.cu, ?_, fun hk => absurd rfl hk, by show (1 : Int) ≤ 2; omega, by show (2 : Int) ≤ 6; omega, rfl, hp, ?_, hpe⟩
  · have := h.lc; rwa [h.ct] at this
  · simp [storeEv]

theorem InvH.step {c : Cst} {vals : List Int} {lucks : List Bool} {s : St} (h : InvH s) (x : In) (hx : InOk x) : InvH (s.step c vals lucks x) := by
  have hlc : Sub (prevC s.ctrl s.ev.length) s.cur := by have := h.lc; rwa [h.ct] at this
  unfold St.step
  split
  · unfold St.load
    split
    · rename_i v hv
      have hp : InvH (St.push { s with vals := s.vals + 1 } (loadEv c s x v) (s.f.dep x.a) 0 (-1)) := by
        have h' : InvH { s with vals := s.vals + 1 } := ⟨h.ad, h.da, h.ct, h.pr, h.at_, h.lc, h.cu, h.f, h.la⟩
        refine h'.push _ _ _ _ ⟨h.f.dep _, Sub.zero _, h.cu, hlc, fun _ => rfl, by show (1 : Int) ≤ 1; omega, by show (1 : Int) ≤ 6; omega, rfl, by show (-1 : Int) < _; omega, ?_, fun hp => by omega⟩
        simp [loadEv]
      have hbit : Sub (bitv s.ev.length) (readM (s.ev ++ [loadEv c s x v]) (s.ev ++ [loadEv c s x v]).length) := by
        rw [readM_snoc, if_pos (by rfl)]; exact Sub.right _ _
      refine ⟨hp.ad, hp.da, hp.ct, hp.pr, hp.at_, hp.lc, hp.cu, hp.f.set _ _ _ hbit, fun hl => ?_⟩
      by_cases h9 : x.op = 9
      · refine ⟨loadEv c s x v, ?_, rfl, by simp [loadEv, h9]⟩
        simp [St.took, St.push, h9]
      · have hl' : 0 ≤ s.last := by simpa [St.took, h9] using hl
        have := hp.la hl'
        simpa [St.took, h9, St.push] using this
    · exact ⟨h.ad, h.da, h.ct, h.pr, h.at_, h.lc, h.cu, h.f, h.la⟩
  · split
    · unfold St.excl
      split
      · rename_i hm
        split
        · exact ⟨h.ad, h.da, h.ct, h.pr, h.at_, h.lc, h.cu, h.f, h.la⟩
        · unfold St.meets at hm
          simp only [Bool.and_eq_true, decide_eq_true_eq, beq_iff_eq, Option.map_eq_some_iff] at hm
          obtain ⟨h0, e, he, heq⟩ := hm
          obtain ⟨q, hq, hq1, hq2⟩ := h.la h0
          have hlt := (List.getElem?_eq_some_iff.1 hq).1
          have h' : InvH { s with last := -1, lucks := s.lucks + 1 } := ⟨h.ad, h.da, h.ct, h.pr, h.at_, h.lc, h.cu, h.f, fun hl => by simp at hl⟩
          have hs := h'.store c x s.last (by show s.last < (s.ev.length : Int); omega) (fun _ => ⟨q, hq, hq1, hq2, by rw [he] at hq; injection hq with hq; rw [← hq]; exact heq⟩)
          exact ⟨hs.ad, hs.da, hs.ct, hs.pr, hs.at_, hs.lc, hs.cu, hs.f.set _ _ _ (Sub.zero _), hs.la⟩
        · exact ⟨h.ad, h.da, h.ct, h.pr, h.at_, h.lc, h.cu, h.f.set _ _ _ (Sub.zero _), fun hl => by simp [St.unlucky] at hl⟩
      · exact ⟨h.ad, h.da, h.ct, h.pr, h.at_, h.lc, h.cu, h.f.set _ _ _ (Sub.zero _), fun hl => by simp [St.failed] at hl⟩
    · split
      · exact h.store c x (-1) (by omega) (fun hp => absurd hp (by decide))
      · split
        · have hk := fenceEv_kind x hx.dmb
          refine h.push _ _ _ _ ⟨Sub.zero _, Sub.zero _, h.cu, hlc, fun _ => rfl, by omega, by omega, rfl, by show (-1 : Int) < _; omega, ?_, fun hp => by omega⟩
          constructor
          · intro hp; exact absurd hp (by decide)
          · intro hp; omega
        · split
          · exact ⟨h.ad, h.da, h.ct, h.pr, h.at_, h.lc.trans (Sub.left _ _), h.cu.or (h.f.dep _), h.f, h.la⟩
          · exact ⟨h.ad, h.da, h.ct, h.pr, h.at_, h.lc, h.cu, h.f.doI x, h.la⟩
theorem runS_invH (c : Cst) (th : List In) (vals : List Int) (lucks : List Bool) : InvH (runS c th vals lucks) :=
  runS_inv InvH th (fun s k h => ⟨h.ad, h.da, h.ct, h.pr, h.at_, h.lc, h.cu, h.f, h.la⟩) (fun s x _ hx h _ => h.step x hx)
    ⟨rfl, rfl, rfl, rfl, fun i hi => by simp [St.zero] at hi, Sub.zero _, Sub.zero _, ⟨Sub.zero _, Sub.zero _, Sub.zero _, Sub.zero _⟩, fun hl => by simp [St.zero] at hl⟩

end Go.Proofs.Ytgefngjfpodiiaa
