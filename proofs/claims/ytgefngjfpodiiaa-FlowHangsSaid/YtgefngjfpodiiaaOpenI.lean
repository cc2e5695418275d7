/-
  Arguments opened: slices of 64-bit numbers, of booleans, of instructions.
-/
import Derived.Test.YtgefngjfpodiiaaOpen
import Derived.Test.YtgefngjfpodiiaaFlowR
namespace Go.Proofs.Ytgefngjfpodiiaa
open Go.ChangeShapes Go.WideShapes Go.ChangeAt Go.RowKit Go.Deep
set_option linter.unusedVariables false

section
variable {H : Type} {enc : TypeId × Value → H} {P : Program} {w : World} {base : Nat} {spare : Nat → Bool} {held : Bool}

/-- A slice of 64-bit numbers among the arguments. -/
theorem open_i64s {r : Reach} {b0 : Nat} {t e : TypeId} {v : Value} {d : DataW H} {p : List MemPlace} (ht : P.underlying t = some (.slice e)) (he : P.underlying e = some (.int .i64)) (hc : P.cellsOf e = 1)
    (hv : Value.okWide P w r b0 t v) (h : DataW.Trod enc P w base spare held t v d p) :
    ∃ (A : Option Addr) (l : List Int) (c : Nat), v = .slice A l.length c ∧ Rd w w.heap.size A (is l) ∧ l.length ≤ c ∧ (∀ x ∈ l, I64 x) := by
  obtain ⟨A, len, cap, rfl⟩ := okWide_slice ht hv
  obtain ⟨fuel, hf⟩ := h
  rcases open_ints ht he hc hf with ⟨hcs, _⟩ | ⟨a, len', cap', zs, hcs, _, hl, hm, hz, _, hcell, hwz⟩
  · simp [Value.cells] at hcs
    obtain ⟨rfl, rfl, rfl⟩ := hcs
    exact ⟨none, [], 0, rfl, Rd.nil_, Nat.le_refl _, by simp⟩
  · simp [Value.cells] at hcs
    obtain ⟨rfl, rfl, rfl⟩ := hcs
    have hzl : len ≤ zs.length := by rw [hz]; split <;> omega
    have hlen : (zs.take len).length = len := by simp; omega
    refine ⟨some a, zs.take len, cap, by rw [hlen], ?_, by rw [hlen]; exact hl, fun x hx => wf_i64 (hwz x (List.mem_of_mem_take hx))⟩
    rcases Nat.eq_zero_or_pos len with h0 | h0
    · subst h0; exact .inl rfl
    · have ha := addr_plain ((by simpa [Addr.add] using hcell 0 (by omega)) : w.cell? a = _)
      refine .inr ⟨a.block, a.off, by rw [← ha], ?_, fun j u hu => ?_⟩
      · exact World.block_lt_of_cell? w a (by simpa [Addr.add] using hcell 0 (by omega))
      · have hj : j < len := by
          have := (List.getElem?_eq_some_iff.1 hu).1
          simpa [is, hlen, Nat.min_eq_left hzl] using this
        have hjz : j < zs.length := by omega
        have hc := hcell j hjz
        rw [ha, Addr.add_lit] at hc
        rw [hc]
        have e : (is (zs.take len))[j]? = some (.int .i64 zs[j]) := by
          simp only [is, List.getElem?_map, List.getElem?_take, if_pos hj, List.getElem?_eq_getElem hjz, Option.map_some]
        rw [e] at hu
        rw [← hu]; simp [hjz]

/-- A slice of booleans among the arguments. -/
theorem open_bs {r : Reach} {b0 : Nat} {t e : TypeId} {v : Value} {d : DataW H} {p : List MemPlace} (ht : P.underlying t = some (.slice e)) (he : P.underlying e = some .bool) (hc : P.cellsOf e = 1)
    (hv : Value.okWide P w r b0 t v) (h : DataW.Trod enc P w base spare held t v d p) :
    ∃ (A : Option Addr) (l : List Bool) (c : Nat), v = .slice A l.length c ∧ Rd w w.heap.size A (bs l) ∧ l.length ≤ c := by
  obtain ⟨A, len, cap, rfl⟩ := okWide_slice ht hv
  obtain ⟨fuel, hf⟩ := h
  rcases open_slice1 ht hc hf with ⟨hcs, _⟩ | ⟨a, len', cap', m, n, V, D, Pl, hcs, _, hl, hm, hmm, _, hx⟩
  · simp [Value.cells] at hcs
    obtain ⟨rfl, rfl, rfl⟩ := hcs
    exact ⟨none, [], 0, rfl, Rd.nil_, Nat.le_refl _⟩
  · simp [Value.cells] at hcs
    obtain ⟨rfl, rfl, rfl⟩ := hcs
    have hlm : len ≤ m := by rw [hmm]; split <;> omega
    obtain ⟨B, hB⟩ := choose_lt (α := Bool) (p := fun i b => V i = .bool b) (n := m) (fun i hi => by
      obtain ⟨b, h1, h2⟩ := DataW.trod_bool he (hx i hi).2
      exact ⟨b, by simpa using h1⟩)
    have hlen : ((List.range len).map B).length = len := by simp
    refine ⟨some a, (List.range len).map B, cap, by rw [hlen], ?_, by rw [hlen]; exact hl⟩
    rcases Nat.eq_zero_or_pos len with h0 | h0
    · subst h0; exact .inl rfl
    · have h00 : w.cell? a = some (V 0) := (hx 0 (by omega)).1
      have ha := addr_plain h00
      refine .inr ⟨a.block, a.off, by rw [← ha], World.block_lt_of_cell? w a h00, fun j u hu => ?_⟩
      have hj : j < len := by
        have := (List.getElem?_eq_some_iff.1 hu).1
        simpa [bs] using this
      have hc := (hx j (by omega)).1
      rw [ha, Addr.add_lit] at hc
      rw [hc, hB j (by omega)]
      rw [← hu]; simp [bs, hj]

/-- A slice of instructions among the arguments. -/
theorem open_ins {r : Reach} {b0 : Nat} {t e tI tV : TypeId} {fs : Array Field} {v : Value} {d : DataW H} {p : List MemPlace} (ht : P.underlying t = some (.slice e)) (he : P.underlying e = some (.struct fs)) (hc : P.cellsOf e = 6)
    (hI : P.underlying tI = some (.int .i64)) (hV : P.underlying tV = some (.int .i64)) (cI : P.cellsOf tI = 1) (cV : P.cellsOf tV = 1)
    (hfs : (fs.toList.map fun f => (f.type, f.offset)) = [(tI, 0), (tI, 1), (tI, 2), (tI, 3), (tI, 4), (tV, 5)])
    (hv : Value.okWide P w r b0 t v) (h : DataW.Trod enc P w base spare held t v d p) :
    ∃ (A : Option Addr) (l : List In) (c : Nat), v = .slice A l.length c ∧ Rd w w.heap.size A (icells l) ∧ l.length ≤ c ∧ c ≤ maxLen := by
  obtain ⟨A, len, cap, rfl⟩ := okWide_slice ht hv
  obtain ⟨fuel, hf⟩ := h
  rcases open_slice ht hf with ⟨hcs, _⟩ | ⟨a, len', cap', m, n, D, Pl, hcs, _, hl, hm, hmm, _, hi⟩
  · simp [Value.cells] at hcs
    obtain ⟨rfl, rfl, rfl⟩ := hcs
    exact ⟨none, [], 0, rfl, Rd.nil_, Nat.le_refl _, Nat.zero_le _⟩
  · simp [Value.cells] at hcs
    obtain ⟨rfl, rfl, rfl⟩ := hcs
    have hlm : len ≤ m := by rw [hmm]; split <;> omega
    have hfl : fs.size = 6 := by
      have := congrArg List.length hfs
      simpa using this
    have hfield : ∀ j (hj : j < 6), ∃ f, fs[j]? = some f ∧ some (f.type, f.offset) = [(tI, 0), (tI, 1), (tI, 2), (tI, 3), (tI, 4), (tV, 5)][j]? := by
      intro j hj
      refine ⟨fs[j], Array.getElem?_eq_getElem (by omega), ?_⟩
      rw [← hfs]; simp [show j < fs.size by omega]
    have each : ∀ i, i < m → ∃ ev : In, ∀ j u, ev.arr[j]? = some u → w.cell? ((a.add (i * 6)).add j) = some u := by
      intro i him
      obtain ⟨cs', hcs', ht'⟩ := hi i him
      rw [hc] at hcs'
      obtain ⟨_, hcl, hat⟩ := World.cells?_some hcs'
      obtain ⟨ys, n', _, _, _, hyl, hfy⟩ := DataW.trod_struct he ht'
      have key : ∀ j (hj : j < 6) ty, [(tI, 0), (tI, 1), (tI, 2), (tI, 3), (tI, 4), (tV, 5)][j]? = some (ty, j) → P.cellsOf ty = 1 → ∃ y, DataW.trod enc P w base spare held n' ty [cs'[j]'(by omega)] = some y := by
        intro j hj ty hty hcy
        obtain ⟨f, hf1, hf2⟩ := hfield j hj
        rw [hty] at hf2
        have e1 : f.type = ty ∧ f.offset = j := by simpa using hf2
        have h1 := hfy j f hf1
        rw [e1.1, e1.2, hcy] at h1
        have hone : (cs'.drop j).take 1 = [cs'[j]'(by omega)] := by
          rw [List.drop_eq_getElem_cons (by omega)]; rfl
        rw [hone] at h1
        exact ⟨ys[j]'(by omega), h1.trans (List.getElem?_eq_getElem (by omega))⟩
      obtain ⟨y0, k0⟩ := key 0 (by omega) tI rfl cI
      obtain ⟨y1, k1⟩ := key 1 (by omega) tI rfl cI
      obtain ⟨y2, k2⟩ := key 2 (by omega) tI rfl cI
      obtain ⟨y3, k3⟩ := key 3 (by omega) tI rfl cI
      obtain ⟨y4, k4⟩ := key 4 (by omega) tI rfl cI
      obtain ⟨y5, k5⟩ := key 5 (by omega) tV rfl cV
      obtain ⟨x0, q0, _, _⟩ := DataW.trod_int hI k0
      obtain ⟨x1, q1, _, _⟩ := DataW.trod_int hI k1
      obtain ⟨x2, q2, _, _⟩ := DataW.trod_int hI k2
      obtain ⟨x3, q3, _, _⟩ := DataW.trod_int hI k3
      obtain ⟨x4, q4, _, _⟩ := DataW.trod_int hI k4
      obtain ⟨x5, q5, _, _⟩ := DataW.trod_int hV k5
      have g : ∀ j (hj : j < 6), w.cell? ((a.add (i * 6)).add j) = some (cs'[j]'(by omega)) := fun j hj => by
        rw [hat j hj, List.getElem?_eq_getElem]
      refine ⟨⟨x0, x1, x2, x3, x4, x5⟩, fun j u hu => ?_⟩
      have hj : j < 6 := (Array.getElem?_eq_some_iff.1 hu).1
      rw [g j hj]
      match j, hj with
      | 0, _ => simp at q0; rw [q0]; exact hu
      | 1, _ => simp at q1; rw [q1]; exact hu
      | 2, _ => simp at q2; rw [q2]; exact hu
      | 3, _ => simp at q3; rw [q3]; exact hu
      | 4, _ => simp at q4; rw [q4]; exact hu
      | 5, _ => simp at q5; rw [q5]; exact hu
    have : Inhabited In := ⟨⟨0, 0, 0, 0, 0, 0⟩⟩
    obtain ⟨E, hE⟩ := choose_lt each
    have hlen : ((List.range len).map E).length = len := by simp
    refine ⟨some a, (List.range len).map E, cap, by rw [hlen], ?_, by rw [hlen]; exact hl, hm⟩
    rcases Nat.eq_zero_or_pos len with h0 | h0
    · subst h0; exact .inl rfl
    · have h00 : w.cell? a = some (.int .i64 (E 0).op) := by
        have h := hE 0 (by omega) 0 (.int .i64 (E 0).op) rfl
        rwa [Nat.zero_mul, show (a.add 0).add 0 = a from rfl] at h
      have ha := addr_plain h00
      refine .inr ⟨a.block, a.off, by rw [← ha], World.block_lt_of_cell? w a h00, fun j u hu => ?_⟩
      have hj : j < len * 6 := by
        have := (List.getElem?_eq_some_iff.1 hu).1
        rwa [icells_length, hlen] at this
      have hq : j / 6 < len := by omega
      have hdm : j = j / 6 * 6 + j % 6 := by omega
      have hm6 : j % 6 < 6 := Nat.mod_lt _ (by omega)
      have hg := icells_get ((List.range len).map E) (j / 6) (by rw [hlen]; exact hq) (j % 6) hm6
      rw [← hdm, hu] at hg
      have hr := hE (j / 6) (by omega) (j % 6) u (by rw [hg]; simp)
      rw [ha, Addr.add_lit, Addr.add_lit, Nat.add_assoc, ← hdm] at hr
      exact hr
end

end Go.Proofs.Ytgefngjfpodiiaa
