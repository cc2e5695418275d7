/-
  What an instruction does to a thread's state, plainly; what stays true of the state; and each method by one contract.
-/
import Derived.Test.YtgefngjfpodiiaaFlowN
import Derived.Laws.Closers25b
namespace Go.Proofs.Ytgefngjfpodiiaa
open Go.RowKit
set_option linter.unusedVariables false

/-- Is there an exclusive load, at the same place? -/
def St.meets (s : St) (locs : Int) (x : In) : Bool := decide (0 ≤ s.last) && ((s.ev[s.last.toNat]?).map (·.loc) == some (placeL s.f x locs))
def St.excl (s : St) (c : Cst) (lucks : List Bool) (x : In) : St :=
  if s.meets c.locs x then (match lucks[s.lucks]? with | none => { s with more := 2 } | some true => s.lucky c x | some false => s.unlucky x) else s.failed x
/-- What an instruction does. -/
def St.step (s : St) (c : Cst) (vals : List Int) (lucks : List Bool) (x : In) : St :=
  if kindOf x.op = 1 then s.load c vals x else if x.op = 10 then s.excl c lucks x else if kindOf x.op = 2 then s.store c x (-1) else if x.op = 11 ∨ x.op = 12 then s.fence x else if x.op = 13 ∨ x.op = 14 then s.branch x else s.alone x
/-- What a thread does from a state on. -/
def runL (c : Cst) (vals : List Int) (lucks : List Bool) : List In → St → St
  | [], s => s
  | x :: t, s => if s.more ≠ 0 then s else if 0 < s.skip then runL c vals lucks t { s with skip := s.skip - 1 } else runL c vals lucks t (s.step c vals lucks x)
theorem runL_more (c : Cst) (vals : List Int) (lucks : List Bool) (l : List In) (s : St) (h : s.more ≠ 0) : runL c vals lucks l s = s := by
  cases l with
  | nil => rfl
  | cons x t => rw [runL, if_pos h]

def Fl.I (f : Fl) : Prop := I64 f.v0 ∧ I64 f.v1 ∧ I64 f.v2 ∧ I64 f.v3
theorem i64_zero : I64 0 := ⟨by omega, by omega⟩
theorem Fl.I.get {f : Fl} (h : f.I) (n : Int) : I64 (f.get n) := by
  obtain ⟨h0, h1, h2, h3⟩ := h
  unfold Fl.get
  split
  · exact h0
  · split
    · exact h1
    · split
      · exact h2
      · split
        · exact h3
        · exact i64_zero
theorem Fl.I.set {f : Fl} (h : f.I) (n v : Int) (d : U32) (hv : I64 v) : (f.set n v d).I := by
  obtain ⟨h0, h1, h2, h3⟩ := h
  unfold Fl.set
  split
  · exact ⟨hv, h1, h2, h3⟩
  · split
    · exact ⟨h0, hv, h2, h3⟩
    · split
      · exact ⟨h0, h1, hv, h3⟩
      · split
        · exact ⟨h0, h1, h2, hv⟩
        · exact ⟨h0, h1, h2, h3⟩
theorem addI_I (a b : Int) : I64 (addI a b) := by unfold addI I64 wrap64; omega
theorem bits_I (op : BinOp) (a b : Int) : I64 (bits op .i64 a b) := ⟨bits_lo_i64 op a b, bits_hi_i64 op a b⟩

/-- What an instruction that may be fulfils. -/
structure InOk (x : In) : Prop where
  loc : kindOf x.op ≠ 0 → I64 x.loc
  mov : x.op = 1 → I64 x.imm
  dmb : x.op = 11 → 0 ≤ x.imm ∧ x.imm ≤ 2
  br : x.op = 13 ∨ x.op = 14 → 0 ≤ x.imm ∧ x.imm ≤ 1000

theorem doI_I {f : Fl} (h : f.I) (x : In) (hx : InOk x) : (doI f x).I := by
  unfold doI
  split
  · exact h.set _ _ _ (hx.mov (by assumption))
  · split
    · exact h.set _ _ _ (addI_I _ _)
    · split
      · exact h.set _ _ _ (bits_I _ _ _)
      · split
        · exact h.set _ _ _ (bits_I _ _ _)
        · exact h

/-- What is true of a thread's state that has n events at most. -/
structure Okk (c : Cst) (nv nl : Nat) (s : St) (n : Nat) : Prop where
  l1 : 1 ≤ c.locs
  l3 : c.locs ≤ 3
  ev : s.ev.length ≤ n
  ad : s.addr.length = s.ev.length
  da : s.data.length = s.ev.length
  ct : s.ctrl.length = s.ev.length
  pr : s.pair.length = s.ev.length
  la : -1 ≤ s.last ∧ s.last < s.ev.length
  f : s.f.I
  va : s.vals ≤ nv
  lu : s.lucks ≤ nl
  sk : 0 ≤ s.skip ∧ s.skip ≤ 1000

theorem Okk.few {c : Cst} {nv nl : Nat} {s : St} {n : Nat} (h : Okk c nv nl s n) (hn : n ≤ 1000) : Few s := by
  obtain ⟨_, _, h0, h1, h2, h3, h4, _, _, _, _, _⟩ := h
  exact ⟨by omega, by omega, by omega, by omega, by omega⟩
theorem Okk.more_ {c : Cst} {nv nl : Nat} {s : St} {n : Nat} (h : Okk c nv nl s n) : Okk c nv nl s (n + 1) := { h with ev := by have := h.ev; omega }
theorem Okk.push {c : Cst} {nv nl : Nat} {s : St} {n : Nat} (h : Okk c nv nl s n) (e : Ev) (a d : U32) (p : Int) : Okk c nv nl (s.push e a d p) (n + 1) := by
  obtain ⟨l1, l3, h0, h1, h2, h3, h4, h5, h6, h7, h8, h9⟩ := h
  refine ⟨l1, l3, ?_, ?_, ?_, ?_, ?_, ?_, h6, h7, h8, h9⟩
  all_goals simp [St.push] <;> omega

theorem Okk.step {c : Cst} {vals : List Int} {lucks : List Bool} {s : St} {n : Nat} (h : Okk c vals.length lucks.length s n) (x : In) (hx : InOk x) (hv : ∀ v ∈ vals, I64 v) : Okk c vals.length lucks.length (s.step c vals lucks x) (n + 1) := by
  unfold St.step
  split
  · unfold St.load
    split
    · rename_i v hv'
      obtain ⟨hlt, rfl⟩ := List.getElem?_eq_some_iff.1 hv'
      have h' : Okk c vals.length lucks.length { s with vals := s.vals + 1 } n := { h with va := by show s.vals + 1 ≤ _; omega }
      have hp := h'.push (loadEv c s x vals[s.vals]) (s.f.dep x.a) 0 (-1)
      have hla := h.la
      refine { hp with la := ?_, f := h.f.set _ _ _ (hv _ (List.getElem_mem hlt)) }
      unfold St.took
      simp only [St.push, List.length_append, List.length_cons, List.length_nil]
      split <;> omega
    · exact { h.more_ with l1 := h.l1 }
  · split
    · unfold St.excl
      split
      · split
        · exact { h.more_ with l1 := h.l1 }
        · rename_i hl
          obtain ⟨hlt, _⟩ := List.getElem?_eq_some_iff.1 hl
          have h' : Okk c vals.length lucks.length { s with last := -1, lucks := s.lucks + 1 } n := { h with la := ⟨by show (-1 : Int) ≤ -1; omega, by show (-1 : Int) < _; omega⟩, lu := by show s.lucks + 1 ≤ _; omega }
          have hp := h'.push (storeEv c { s with last := -1, lucks := s.lucks + 1 } x s.last) (s.f.dep x.a) (s.f.dep x.b) s.last
          exact { hp with f := h.f.set _ _ _ i64_zero }
        · rename_i hl
          obtain ⟨hlt, _⟩ := List.getElem?_eq_some_iff.1 hl
          exact { h.more_ with la := ⟨by show (-1 : Int) ≤ -1; omega, by show (-1 : Int) < _; omega⟩, lu := by show s.lucks + 1 ≤ _; omega, f := h.f.set _ _ _ ⟨by omega, by omega⟩ }
      · exact { h.more_ with la := ⟨by show (-1 : Int) ≤ -1; omega, by show (-1 : Int) < _; omega⟩, f := h.f.set _ _ _ ⟨by omega, by omega⟩ }
    · split
      · exact h.push _ _ _ _
      · split
        · exact h.push _ _ _ _
        · split
          · rename_i hb
            have hi := hx.br hb
            have hs := h.sk
            refine { h.more_ with sk := ?_ }
            unfold St.branch
            dsimp only
            split <;> assumption
          · exact { h.more_ with f := doI_I h.f x hx }

/-- Each method, by one contract. -/
theorem step_any (K : Nat → Prop) (g B n : Nat) (c : Cst) (s : St) (x : In) (VA LA : Option Addr) (vc lc : Nat) (vals : List Int) (lucks : List Bool) (w : World) (h : RunAt w K g c s) (ok : Okk c vals.length lucks.length s n) (hn : n < 32) (hx : InOk x)
    (hva : c.va = .slice VA vals.length vc) (hla : c.la = .slice LA lucks.length lc) (hrv : Rd w B VA (is vals)) (hrl : Rd w B LA (bs lucks)) (hKB : ∀ k, k < B → K k) (hvl : vals.length ≤ 1000) (hll : lucks.length ≤ 1000) :
    Calls Try.prog (stepF x) #[.pointer (some ⟨g, 0, none⟩), .agg x.arr] w (Turns K g c (s.step c vals lucks x) w) := by
  have hf := ok.few (by omega)
  have fit : kindOf x.op ≠ 0 → Fit c s x := fun hk => ⟨ok.l1, ok.l3, hk, hx.loc hk, ok.f.get _⟩
  have hev := ok.ev
  unfold stepF St.step
  by_cases h1 : kindOf x.op = 1
  · rw [if_pos h1, if_pos h1]
    unfold St.load
    by_cases hv : s.vals < vals.length
    · rw [List.getElem?_eq_getElem hv]
      exact load_some K g B c s x VA vc vals w h hf (fit (by omega)) hKB (by omega) hva hrv hv hvl
    · rw [List.getElem?_eq_none (by omega)]
      exact load_none K g c s x VA vc vals.length w h hva (by have := ok.va; omega)
  rw [if_neg h1, if_neg h1]
  by_cases h2 : x.op = 10
  · rw [if_pos h2, if_pos h2]
    have hk2 : kindOf x.op ≠ 0 := by rw [h2]; decide
    have hfit := fit hk2
    unfold St.excl
    by_cases hm : s.meets c.locs x = true
    · rw [if_pos hm]
      unfold St.meets at hm
      simp only [Bool.and_eq_true, decide_eq_true_eq, beq_iff_eq, Option.map_eq_some_iff] at hm
      obtain ⟨h0, e, he, heq⟩ := hm
      obtain ⟨hi, rfl⟩ := List.getElem?_eq_some_iff.1 he
      have hl : s.last = (s.last.toNat : Int) := by omega
      by_cases hlu : s.lucks < lucks.length
      · rw [List.getElem?_eq_getElem hlu]
        cases hb : lucks[s.lucks] with
        | true => exact excl_lucky K g B c s x s.last.toNat LA lc lucks w h hf hfit hl hi heq hla hrl hKB hlu hll hb
        | false => exact excl_unlucky K g B c s x s.last.toNat LA lc lucks w h hfit hl hi heq hla hrl hKB hlu hll hb
      · rw [List.getElem?_eq_none (by omega)]
        exact excl_out K g c s x s.last.toNat LA lucks.length lc w h hfit hl hi heq hla (by have := ok.lu; omega)
    · rw [if_neg hm]
      have hla' := ok.la
      by_cases hl0 : s.last < 0
      · exact excl_none K g c s x w h hfit hl0
      · have hi : s.last.toNat < s.ev.length := by omega
        refine excl_apart K g c s x s.last.toNat w h hfit (by omega) hi (fun he => hm ?_)
        unfold St.meets
        rw [List.getElem?_eq_getElem hi]
        simp [he]; omega
  rw [if_neg h2, if_neg h2]
  by_cases h3 : kindOf x.op = 2
  · rw [if_pos h3, if_pos h3]
    exact plain_any K g c s x w h hf (fit (by omega))
  rw [if_neg h3, if_neg h3]
  by_cases h4 : x.op = 11 ∨ x.op = 12
  · rw [if_pos h4, if_pos h4]
    exact fence_any K g c s x w h hf hx.dmb
  rw [if_neg h4, if_neg h4]
  by_cases h5 : x.op = 13 ∨ x.op = 14
  · rw [if_pos h5, if_pos h5]
    exact branch_any K g c s x w h
  rw [if_neg h5, if_neg h5]
  exact alone_any K g c s x w h

end Go.Proofs.Ytgefngjfpodiiaa
