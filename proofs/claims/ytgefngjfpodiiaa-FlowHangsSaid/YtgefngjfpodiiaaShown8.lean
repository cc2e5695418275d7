/-
  The document's example of chapter 8 (the law's shown), by a walk.
-/
import Derived.Test.YtgefngjfpodiiaaFlowR
namespace Go.Proofs.Ytgefngjfpodiiaa
open Go.RowKit
set_option linter.unusedVariables false

def shTh : List In := [⟨5, 1, -1, 0, 0, 0⟩, ⟨6, 0, -1, 1, 0, 0⟩]
def shSt : St := ⟨[⟨0, 1, 0, 7, false, false, false⟩, ⟨0, 2, 0, 7, false, false, false⟩], [0, 0], [0, 1], [0, 0], [-1, -1], ⟨0, 7, 0, 0, 0, 1, 0, 0⟩, 1, 0, 0, 0, -1, 0⟩
theorem sh_run (va la : Value) : runS ⟨1, va, la⟩ shTh [7] [] = shSt := by kernel_rfl

set_option maxHeartbeats 3200000 in
theorem shown_any (w : World) : Calls Try.prog 9 #[] w fun e w' => e = .returned (.bool true) ∧ Below w.heap.size w w' := by
  have hrun : ∀ (w' : World), Rd w' w'.heap.size (some ⟨w.heap.size, 0, none⟩) (icells shTh) → Rd w' w'.heap.size (some ⟨w.heap.size + 1, 0, none⟩) (is [7]) →
      Calls Try.prog 12 #[.slice (some ⟨w.heap.size, 0, none⟩) 2 2, .int .i64 1, .slice (some ⟨w.heap.size + 1, 0, none⟩) 1 1, .slice none 0 0] w' (RunRes w' shSt) := fun w' h1 h2 => by
    have h := run_any (some ⟨w.heap.size, 0, none⟩) shTh 2 1 (some ⟨w.heap.size + 1, 0, none⟩) [7] 1 none [] 0 w' h1 h2 Rd.nil_ (by decide) (by decide) (by decide) (by decide) (fun v hv => by simp at hv; subst hv; exact ⟨by omega, by omega⟩)
    rw [sh_run] at h
    exact h
  have hb0 : Below w.heap.size w ((w.alloc (.cells (icells shTh).toArray 51)).alloc (.cells (is [7]).toArray 2)) := below_alloc ((Below.refl _ _).alloc (Nat.le_refl _) _) _ (Nat.le_refl _)
  have h1 : Rd ((w.alloc (.cells (icells shTh).toArray 51)).alloc (.cells (is [7]).toArray 2)) ((w.alloc (.cells (icells shTh).toArray 51)).alloc (.cells (is [7]).toArray 2)).heap.size (some ⟨w.heap.size, 0, none⟩) (icells shTh) := (Rd.new_ w (icells shTh).toArray 51).next _
  have h2 : Rd ((w.alloc (.cells (icells shTh).toArray 51)).alloc (.cells (is [7]).toArray 2)) ((w.alloc (.cells (icells shTh).toArray 51)).alloc (.cells (is [7]).toArray 2)).heap.size (some ⟨w.heap.size + 1, 0, none⟩) (is [7]) := Rd.new_at _ _ _ _ (by simp)
  have H1 := Lib.hid h1
  have H2 := Lib.hid h2
  clear h1 h2
  go_enter Try.func9, Try.ntmps9
  go_wp2_with fail
  refine (hrun _ H1.out H2.out).mono ?_
  rintro e w1 ⟨⟨v, rfl, a1, a2, a3, a4, a5, k1, k2, k3, k4, k5, rfl, hE, hA, hD, hC, hP, _⟩, hb1⟩
  have hb := below_next hb0 hb1
  obtain ⟨be, oe, ha1, hbe, hce⟩ := hE.at_ev (i := 1) (by decide)
  obtain ⟨bd, od, ha3, hbd, hcd⟩ := hD.at_us (i := 1) (by decide)
  have e3 := (hce 1 (by decide)).c3
  have d3 := hcd 1 (by decide)
  subst ha1 ha3
  clear hrun H1 H2 hb0 hb1 hE hA hD hC hP hce hcd
  have hw2 : Below w.heap.size w (w1.alloc (.cells (tarr (.slice (some ⟨be, oe, none⟩) 2 k1) (.slice a2 2 k2) (.slice (some ⟨bd, od, none⟩) 2 k3) (.slice a4 2 k4) (.slice a5 2 k5) shSt) 40)) := below_alloc hb _ (Nat.le_refl _)
  unfold tarr at *
  go_wp2_with fail
  go_ret
  exact ⟨rfl, hw2⟩

end Go.Proofs.Ytgefngjfpodiiaa
