/-
  Arguments opened: slices of numbers, slices of events; and the row's last step.
-/
import Derived.Test.YtgefngjfpodiiaaRows
import Derived.Test.YtgefngjfpodiiaaEv
import Derived.ProofKit
import Derived.OpenShut
import Derived.Deep.Slices
import Derived.Deep.Fields
import Derived.ChangeSame
namespace Go.Proofs.Ytgefngjfpodiiaa
open Go.ChangeShapes Go.WideShapes Go.ChangeAt Go.RowKit Go.Deep
set_option linter.unusedVariables false

section
variable {H : Type} {enc : TypeId × Value → H} {P : Program} {w : World} {base : Nat} {spare : Nat → Bool} {held : Bool}

/-- The row's last step, of a call of which 'Below' is known. -/
theorem post_below {f : Func} {s : ChangeSpec} {apart fresh handsOn again : Bool} {W W' : World} {args : Array Value} {v : Value} {ds gs : List (DataW H)} {before pa pv : List MemPlace}
    (hW : DataW.Whole enc P f.params.toList s.vars apart W args.toList ds gs before)
    (hres : ∀ (b : Nat) (sp : Nat → Bool) (hd : Bool), DataW.TrodAll enc P W' b sp hd f.resultTypes.toList (v.resultList f.resultTypes.size) (s.fn H (ds ++ gs)).results [])
    (hargs : ∀ sp : Nat → Bool, (∀ p ∈ before, sp p.block = true) → DataW.TrodAll enc P W' 0 sp true f.params.toList args.toList (s.fn H (ds ++ gs)).args pa)
    (hvars : ∀ sp : Nat → Bool, (∀ p ∈ before, sp p.block = true) → DataW.TrodVars enc P W' sp s.vars (s.fn H (ds ++ gs)).vars pv)
    (hps : before = pa ++ pv) (hb : Below W.heap.size W W')
    (hok : ∀ (j : Nat) (t : TypeId) (r : Value), f.resultTypes[j]? = some t → (v.resultList f.resultTypes.size)[j]? = some r → Value.okWide P W' .any 0 t r) :
    s.post enc P f apart fresh handsOn again W args v W' := by
  have hlt : ∀ p ∈ before, p.block < W.heap.size := fun p hp => hW.lt p hp
  have hold : ∀ p ∈ before, (fun b => decide (b < W.heap.size)) p.block = true := fun p hp => by simpa using hlt p hp
  refine ⟨ds, gs, before, [], pa, pv, hW, hres _ _ _, hargs _ hold, hvars _ hold, World.keptBut_mono (fun p hp => ⟨hp, ?_⟩) (hb.frame (· ∈ before)), fun _ => ?_⟩
  · rw [hps, List.mem_append] at hp
    exact Or.inr hp
  · obtain ⟨_, _, _, _, _, hz, hn⟩ := hW
    refine ⟨hok, _, _, ([] ++ pa) ++ pv, ⟨[] ++ pa, pv, trodAll_append (hargs _ (fun _ _ => rfl)) (hres _ _ _), hvars _ (fun _ _ => rfl), rfl, ?_, ?_⟩, ?_⟩
    · intro b off hp
      have hin : MemPlace.cell b off ∈ before := by rw [hps]; simpa using hp
      rw [hb.frozen (hlt _ hin)]
      exact hz b off hin
    · intro ha
      have := hn ha
      rw [hps] at this
      simpa using this
    · intro p hp _
      rw [hps]
      simpa using hp

theorem addr_plain {w : World} {a : Addr} {v : Value} (h : w.cell? a = some v) : a = ⟨a.block, a.off, none⟩ := by
  obtain ⟨b, o, s⟩ := a
  have : s = none := World.cell?_spot h
  subst this; rfl

theorem wf_u32 {n : Int} (h : (Lit.int .u32 n).wf = true) : 0 ≤ n ∧ n < 4294967296 := by
  have h' : IntKind.u32.min ≤ n ∧ n ≤ IntKind.u32.max := by simpa [Lit.wf] using h
  have h1 : IntKind.u32.min = 0 := rfl
  have h2 : IntKind.u32.max = 4294967295 := rfl
  omega
theorem wf_i64 {n : Int} (h : (Lit.int .i64 n).wf = true) : -9223372036854775808 ≤ n ∧ n ≤ 9223372036854775807 := by
  have h' : IntKind.i64.min ≤ n ∧ n ≤ IntKind.i64.max := by simpa [Lit.wf] using h
  have h1 : IntKind.i64.min = -9223372036854775808 := rfl
  have h2 : IntKind.i64.max = 9223372036854775807 := rfl
  omega
theorem u32_back {n : Int} (h : 0 ≤ n ∧ n < 4294967296) : ((BitVec.ofInt 32 n).toNat : Int) = n := by
  rw [BitVec.toNat_ofInt]; simp; omega

/-- A slice of 32-bit numbers among the arguments. -/
theorem open_us {r : Reach} {b0 : Nat} {t e : TypeId} {v : Value} {d : DataW H} {p : List MemPlace} (ht : P.underlying t = some (.slice e)) (he : P.underlying e = some (.int .u32)) (hc : P.cellsOf e = 1)
    (hv : Value.okWide P w r b0 t v) (h : DataW.Trod enc P w base spare held t v d p) :
    ∃ (A : Option Addr) (l : List U32) (c : Nat), v = .slice A l.length c ∧ Rd w w.heap.size A (us l) ∧ l.length ≤ c := by
  obtain ⟨A, len, cap, rfl⟩ := okWide_slice ht hv
  obtain ⟨fuel, hf⟩ := h
  rcases open_ints ht he hc hf with ⟨hcs, _⟩ | ⟨a, len', cap', zs, hcs, _, hl, hm, hz, _, hcell, hwz⟩
  · simp [Value.cells] at hcs
    obtain ⟨rfl, rfl, rfl⟩ := hcs
    exact ⟨none, [], 0, rfl, Rd.nil_, Nat.le_refl _⟩
  · simp [Value.cells] at hcs
    obtain ⟨rfl, rfl, rfl⟩ := hcs
    have hzl : len ≤ zs.length := by rw [hz]; split <;> omega
    have hlen : ((zs.take len).map (BitVec.ofInt 32)).length = len := by simp; omega
    refine ⟨some a, (zs.take len).map (BitVec.ofInt 32), cap, by rw [hlen], ?_, by rw [hlen]; exact hl⟩
    rcases Nat.eq_zero_or_pos len with h0 | h0
    · subst h0; exact .inl rfl
    · have ha := addr_plain ((by simpa [Addr.add] using hcell 0 (by omega)) : w.cell? a = _)
      refine .inr ⟨a.block, a.off, by rw [← ha], ?_, fun j u hu => ?_⟩
      · exact World.block_lt_of_cell? w a (by simpa [Addr.add] using hcell 0 (by omega))
      · have hj : j < len := by
          have := (List.getElem?_eq_some_iff.1 hu).1
          simpa [us, hlen, Nat.min_eq_left hzl] using this
        have hjz : j < zs.length := by omega
        have hc := hcell j hjz
        rw [ha, Addr.add_lit] at hc
        rw [hc]
        have e : (us ((zs.take len).map (BitVec.ofInt 32)))[j]? = some (.int .u32 zs[j]) := by
          have hw := u32_back (wf_u32 (hwz zs[j] (List.getElem_mem hjz)))
          simp only [us, List.map_map, List.getElem?_map, List.getElem?_take, if_pos hj, List.getElem?_eq_getElem hjz, Option.map_some, Function.comp_apply, hw]
        rw [e] at hu
        rw [← hu]; simp [hjz]

/-- A slice of events among the arguments. -/
theorem open_evs {r : Reach} {b0 : Nat} {t e tI tV tB : TypeId} {fs : Array Field} {v : Value} {d : DataW H} {p : List MemPlace} (ht : P.underlying t = some (.slice e)) (he : P.underlying e = some (.struct fs)) (hc : P.cellsOf e = 7)
    (hI : P.underlying tI = some (.int .i64)) (hV : P.underlying tV = some (.int .i64)) (hB : P.underlying tB = some .bool) (cI : P.cellsOf tI = 1) (cV : P.cellsOf tV = 1) (cB : P.cellsOf tB = 1)
    (hfs : (fs.toList.map fun f => (f.type, f.offset)) = [(tI, 0), (tI, 1), (tI, 2), (tV, 3), (tB, 4), (tB, 5), (tB, 6)])
    (hv : Value.okWide P w r b0 t v) (h : DataW.Trod enc P w base spare held t v d p) :
    ∃ (A : Option Addr) (l : List Ev) (c : Nat), v = .slice A l.length c ∧ Rd w w.heap.size A (ecells l) ∧ l.length ≤ c := by
  obtain ⟨A, len, cap, rfl⟩ := okWide_slice ht hv
  obtain ⟨fuel, hf⟩ := h
  rcases open_slice ht hf with ⟨hcs, _⟩ | ⟨a, len', cap', m, n, D, Pl, hcs, _, hl, hm, hmm, _, hi⟩
  · simp [Value.cells] at hcs
    obtain ⟨rfl, rfl, rfl⟩ := hcs
    exact ⟨none, [], 0, rfl, Rd.nil_, Nat.le_refl _⟩
  · simp [Value.cells] at hcs
    obtain ⟨rfl, rfl, rfl⟩ := hcs
    have hlm : len ≤ m := by rw [hmm]; split <;> omega
    have hfl : fs.size = 7 := by
      have := congrArg List.length hfs
      simpa using this
    have hfield : ∀ j (hj : j < 7), ∃ f, fs[j]? = some f ∧ some (f.type, f.offset) = [(tI, 0), (tI, 1), (tI, 2), (tV, 3), (tB, 4), (tB, 5), (tB, 6)][j]? := by
      intro j hj
      refine ⟨fs[j], Array.getElem?_eq_getElem (by omega), ?_⟩
      rw [← hfs]; simp [show j < fs.size by omega]
    have each : ∀ i, i < m → ∃ ev : Ev, ∀ j u, ev.arr[j]? = some u → w.cell? ((a.add (i * 7)).add j) = some u := by
      intro i him
      obtain ⟨cs', hcs', ht'⟩ := hi i him
      rw [hc] at hcs'
      obtain ⟨_, hcl, hat⟩ := World.cells?_some hcs'
      obtain ⟨ys, n', _, _, _, hyl, hfy⟩ := DataW.trod_struct he ht'
      have key : ∀ j (hj : j < 7) ty, [(tI, 0), (tI, 1), (tI, 2), (tV, 3), (tB, 4), (tB, 5), (tB, 6)][j]? = some (ty, j) → P.cellsOf ty = 1 → ∃ y, DataW.trod enc P w base spare held n' ty [cs'[j]'(by omega)] = some y := by
        intro j hj ty hty hcy
        obtain ⟨f, hf1, hf2⟩ := hfield j hj
        rw [hty] at hf2
        have e1 : f.type = ty ∧ f.offset = j := by simpa using hf2
        have h1 := hfy j f hf1
        rw [e1.1, e1.2, hcy] at h1
        have hone : (cs'.drop j).take 1 = [cs'[j]'(by omega)] := by
          rw [List.drop_eq_getElem_cons (by omega)]; rfl
        rw [hone] at h1
        exact ⟨ys[j]'(by omega), h1.trans (List.getElem?_eq_getElem (by omega))⟩
      obtain ⟨y0, k0⟩ := key 0 (by omega) tI rfl cI
      obtain ⟨y1, k1⟩ := key 1 (by omega) tI rfl cI
      obtain ⟨y2, k2⟩ := key 2 (by omega) tI rfl cI
      obtain ⟨y3, k3⟩ := key 3 (by omega) tV rfl cV
      obtain ⟨y4, k4⟩ := key 4 (by omega) tB rfl cB
      obtain ⟨y5, k5⟩ := key 5 (by omega) tB rfl cB
      obtain ⟨y6, k6⟩ := key 6 (by omega) tB rfl cB
      obtain ⟨x0, q0, _, _⟩ := DataW.trod_int hI k0
      obtain ⟨x1, q1, _, _⟩ := DataW.trod_int hI k1
      obtain ⟨x2, q2, _, _⟩ := DataW.trod_int hI k2
      obtain ⟨x3, q3, _, _⟩ := DataW.trod_int hV k3
      obtain ⟨x4, q4, _⟩ := DataW.trod_bool hB k4
      obtain ⟨x5, q5, _⟩ := DataW.trod_bool hB k5
      obtain ⟨x6, q6, _⟩ := DataW.trod_bool hB k6
      have g : ∀ j (hj : j < 7), w.cell? ((a.add (i * 7)).add j) = some (cs'[j]'(by omega)) := fun j hj => by
        rw [hat j hj, List.getElem?_eq_getElem]
      refine ⟨⟨x0, x1, x2, x3, x4, x5, x6⟩, fun j u hu => ?_⟩
      have hj : j < 7 := (Array.getElem?_eq_some_iff.1 hu).1
      rw [g j hj]
      match j, hj with
      | 0, _ => simp at q0; rw [q0]; exact hu
      | 1, _ => simp at q1; rw [q1]; exact hu
      | 2, _ => simp at q2; rw [q2]; exact hu
      | 3, _ => simp at q3; rw [q3]; exact hu
      | 4, _ => simp at q4; rw [q4]; exact hu
      | 5, _ => simp at q5; rw [q5]; exact hu
      | 6, _ => simp at q6; rw [q6]; exact hu
    have : Inhabited Ev := ⟨⟨0, 0, 0, 0, false, false, false⟩⟩
    obtain ⟨E, hE⟩ := choose_lt each
    have hlen : ((List.range len).map E).length = len := by simp
    refine ⟨some a, (List.range len).map E, cap, by rw [hlen], ?_, by rw [hlen]; exact hl⟩
    rcases Nat.eq_zero_or_pos len with h0 | h0
    · subst h0; exact .inl rfl
    · have h00 : w.cell? a = some (.int .i64 (E 0).thread) := by
        have h := hE 0 (by omega) 0 (.int .i64 (E 0).thread) rfl
        rwa [Nat.zero_mul, show (a.add 0).add 0 = a from rfl] at h
      have ha := addr_plain h00
      refine .inr ⟨a.block, a.off, by rw [← ha], World.block_lt_of_cell? w a h00, fun j u hu => ?_⟩
      have hj : j < len * 7 := by
        have := (List.getElem?_eq_some_iff.1 hu).1
        rwa [ecells_length, hlen] at this
      have hq : j / 7 < len := by omega
      have hdm : j = j / 7 * 7 + j % 7 := by omega
      have hm7 : j % 7 < 7 := Nat.mod_lt _ (by omega)
      have hg := ecells_get ((List.range len).map E) (j / 7) (by rw [hlen]; exact hq) (j % 7) hm7
      rw [← hdm, hu] at hg
      have hr := hE (j / 7) (by omega) (j % 7) u (by rw [hg]; simp)
      rw [ha, Addr.add_lit, Addr.add_lit, Nat.add_assoc, ← hdm] at hr
      exact hr
end

end Go.Proofs.Ytgefngjfpodiiaa
