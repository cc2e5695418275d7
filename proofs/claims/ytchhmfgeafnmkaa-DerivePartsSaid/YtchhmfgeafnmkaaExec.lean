/-
  The functions of package exec on relations of events: pairs, Inner, Mask, by walks.
-/
import Derived.Test.YtchhmfgeafnmkaaRel4
import Derived.Test.YtchhmfgeafnmkaaEv
namespace Go.Proofs.Ytchhmfgeafnmkaa
open Go.RowKit

/-- The function F tells 'of' of two events. -/
def Tells2 (F : Nat) (of : Ev → Ev → Bool) : Prop :=
  ∀ (x y : Ev) (w : World), Calls Try.prog F #[.agg x.arr, .agg y.arr] w fun e w' => e = .returned (.bool (of x y)) ∧ Below w.heap.size w w'

theorem evAt_new (w : World) (e : Ev) (t : TypeId) : EvAt (w.alloc (.cells e.arr t)) w.heap.size 0 e :=
  ⟨cell_new _ _ _ 0 _ rfl, cell_new _ _ _ 1 _ rfl, cell_new _ _ _ 2 _ rfl, cell_new _ _ _ 3 _ rfl, cell_new _ _ _ 4 _ rfl, cell_new _ _ _ 5 _ rfl, cell_new _ _ _ 6 _ rfl⟩
theorem EvAt.keep {w w' : World} {b o : Nat} {e : Ev} (h : EvAt w b o e) (k : ∀ p : Addr, p.block = b → w'.cell? p = w.cell? p) : EvAt w' b o e :=
  ⟨(k _ rfl).trans h.c0, (k _ rfl).trans h.c1, (k _ rfl).trans h.c2, (k _ rfl).trans h.c3, (k _ rfl).trans h.c4, (k _ rfl).trans h.c5, (k _ rfl).trans h.c6⟩
theorem EvAt.below {w w' : World} {B b o : Nat} {e : Ev} (h : EvAt w b o e) (hb : Below B w w') (hB : b < B) : EvAt w' b o e := h.keep fun p hp => hb.cell (by omega)
theorem EvAt.lt {w : World} {b o : Nat} {e : Ev} (h : EvAt w b o e) : b < w.heap.size := World.block_lt_of_cell? w _ h.c0

set_option maxHeartbeats 400000 in
theorem inner1_any : Tells2 27 fun x y => x.thread == y.thread := by
  intro x y w
  unfold Ev.arr
  go_enter Try.func27, Try.ntmps27
  go_wp2
  go_ret
  exact ⟨rfl, ((Below.refl _ _).alloc (Nat.le_refl _) _).alloc (by simp) _⟩

set_option maxHeartbeats 3200000 in
theorem pairsE_any (F : Nat) (hE : Ent F) (of : Ev → Ev → Bool) (hF : Tells2 F of) (A : Option Addr) (l : List Ev) (c : Nat) (v1 v2 v3 v4 v5 v6 : Value) (w : World) (hr : Rd w w.heap.size A (ecells l)) (hl : l.length ≤ 1000000) :
    Calls Try.prog 26 #[.agg #[.slice A l.length c, v1, v2, v3, v4, v5, v6], .func (.func F) #[] #[]] w (RetRel w.heap.size w (pairsE of l)) := by
  have HF := Lib.hid hF
  clear hF
  unfold Ent at hE
  have hnl := newL_le l.length
  go_enter Try.func26, Try.ntmps26
  go_wp2_with fail
  refine (new_any _ _).mono ?_
  rintro e w1 ⟨A1, c1, rfl, hown1, hb1⟩
  have hcE0 : (w.alloc (Obj.cells #[Value.slice A l.length c, v1, v2, v3, v4, v5, v6] 28)).cell? ⟨w.heap.size, 0, none⟩ = some (.slice A l.length c) := cell_new _ _ _ 0 _ rfl
  have hrE0 : Rd (w.alloc (Obj.cells #[Value.slice A l.length c, v1, v2, v3, v4, v5, v6] 28)) (w.heap.size + 1) A (ecells l) := (hr.below ((Below.refl _ _).alloc (Nat.le_refl _) _)).mono (by omega)
  have hbw : Below w.heap.size w (w.alloc (Obj.cells #[Value.slice A l.length c, v1, v2, v3, v4, v5, v6] 28)) := (Below.refl _ _).alloc (Nat.le_refl _) _
  have hsz0 : (w.alloc (Obj.cells #[Value.slice A l.length c, v1, v2, v3, v4, v5, v6] 28)).heap.size = w.heap.size + 1 := by simp
  rw [hsz0] at hown1 hb1
  generalize w.alloc (Obj.cells #[Value.slice A l.length c, v1, v2, v3, v4, v5, v6] 28) = w0 at *
  have hsz := Lib.hid hsz0
  clear hsz0 hr
  have hcE := (hb1.cell (p := ⟨w.heap.size, 0, none⟩) (by simp)).trans hcE0
  go_wp2_with fail
  go_loopw [5, 17] (fun v i wr => ∃ k : Nat, k ≤ l.length ∧ i = .int .i64 k ∧ (∃ A2 c2, v = .slice A2 (pairToE of l k).length c2 ∧ wr.ownsRow (w.heap.size + 1) 33 1 (.slice A2 (pairToE of l k).length c2) (pairToE of l k).length (us (pairToE of l k))) ∧ Below (w.heap.size + 1) w0 wr)
    (fun _ i _ => l.length - (intOf i).toNat)
  case atStart => exact ⟨0, Nat.zero_le _, rfl, ⟨A1, c1, rfl, hown1⟩, hb1⟩
  case round =>
    obtain ⟨wo, rfl⟩ : ∃ wo : World, wo = wr := ⟨_, rfl⟩
    obtain ⟨i, hi, rfl, ⟨A2, c2, rfl, hown⟩, hb⟩ := hrel
    clear hown1 hb1 hcE
    have hcE := (hb.cell (p := ⟨w.heap.size, 0, none⟩) (by simp)).trans hcE0
    by_cases hlt : i < l.length
    · have hrr := hrE0.below hb
      obtain ⟨b, off, rfl, hB, hc⟩ := hrr.at_ev hlt
      obtain ⟨d0, d1, d2, d3, d4, d5, d6⟩ := hc i hlt
      have hsw : w.heap.size + 1 ≤ wo.heap.size := by have := hb.size; have := hsz.out; omega
      have hle2 := pairToE_le of l i
      have hsw1 : w.heap.size < wo.heap.size := by omega
      go_wp2_with fail
      have hx : EvAt (wo.alloc (.cells (l[i]).arr 41)) wo.heap.size 0 l[i] := evAt_new _ _ _
      have hbx : Below (w.heap.size + 1) w0 (wo.alloc (.cells (l[i]).arr 41)) := hb.alloc hsw _
      have hownx := hown.alloc (.cells (l[i]).arr 41)
      have hszx : (wo.alloc (.cells (l[i]).arr 41)).heap.size = wo.heap.size + 1 := by simp
      have hbrx : Below wo.heap.size wo (wo.alloc (.cells (l[i]).arr 41)) := (Below.refl _ _).alloc (Nat.le_refl _) _
      have Hszx := hszx
      clear hszx d0 d1 d2 d3 d4 d5 d6
      have hcEx := (hbx.cell (p := ⟨w.heap.size, 0, none⟩) (by simp)).trans hcE0
      have hrx := hrE0.below hbx
      obtain ⟨wx, hW⟩ : ∃ wx : World, wo.alloc (.cells (l[i]).arr 41) = wx := ⟨_, rfl⟩
      rw [hW] at hx hbx hownx hbrx hcEx hrx Hszx
      have Hszx := Lib.hid Hszx
      have HW := Lib.hid hW
      clear hW
      go_loopw [5, 25] (fun v q wq => ∃ k : Nat, k ≤ l.length ∧ q = .int .i64 k ∧ (∃ A2 c2, v = .slice A2 (pairRowE of l (pairToE of l i) i k).length c2 ∧ wq.ownsRow (w.heap.size + 1) 33 1 (.slice A2 (pairRowE of l (pairToE of l i) i k).length c2) (pairRowE of l (pairToE of l i) i k).length (us (pairRowE of l (pairToE of l i) i k))) ∧ Below wx.heap.size wx wq)
        (fun _ q _ => l.length - (intOf q).toNat)
      case atStart =>
        have hW := HW.out
        subst hW
        exact ⟨0, Nat.zero_le _, rfl, ⟨A2, c2, by rw [pairRowE_zero], by rw [pairRowE_zero]; exact hownx⟩, Below.refl _ _⟩
      case round =>
        obtain ⟨wq, rfl⟩ : ∃ wq : World, wq = wr := ⟨_, rfl⟩
        obtain ⟨k, hk, rfl, ⟨A3, c3, rfl, hownq⟩, hbq⟩ := hrel
        clear hown hownx hcE hcEx
        have hsq0 := hbq.size
        have hsq : wo.heap.size < wq.heap.size := by have := Hszx.out; omega
        have hsq1 : w.heap.size < wq.heap.size := by omega
        have hbb : b < wo.heap.size := by omega
        have hle3 := pairRowE_le of l _ i k hle2
        by_cases hkt : k < l.length
        · obtain ⟨d0, d1, d2, d3, d4, d5, d6⟩ := ((hc k hkt).below hbrx hbb).below hbq (by have := Hszx.out; omega)
          obtain ⟨x0, x1, x2, x3, x4, x5, x6⟩ := hx.below hbq (by have := Hszx.out; omega)
          have hby : Below wx.heap.size wx (wq.alloc (.cells (l[k]).arr 41)) := hbq.alloc hsq0 _
          have hszy : (wq.alloc (.cells (l[k]).arr 41)).heap.size = wq.heap.size + 1 := by simp
          have Hszy := Lib.hid hszy
          have Hc := Lib.hid hc
          clear hc hszy hx
          by_cases hik : i = k
          · have hst := Lib.hid (pairStep_not of l i (pairRowE of l (pairToE of l i) i k) k hlt hkt (.inl hik))
            have hsucc := Lib.hid (pairRowE_succ of l (pairToE of l i) i k)
            have ht : ((i : Int) != (k : Int)) = false := by rw [hik]; simp
            clear hik
            go_wp2_with fail
            go_roundw
            case rel => exact ⟨k + 1, by omega, by go_num, ⟨A3, c3, by rw [hsucc.out, hst.out], by rw [hsucc.out, hst.out]; exact hownq.alloc _⟩, hby⟩
            case measure => simp [intOf]; omega
          · have ht : ((i : Int) != (k : Int)) = true := by rw [bne_iff_ne]; omega
            have hsucc := Lib.hid (pairRowE_succ of l (pairToE of l i) i k)
            have Hik := Lib.hid hik
            clear hik
            go_wp2_with fail
            refine (HF.out l[i] l[k] _).mono ?_
            rintro e w5 ⟨rfl, hb5⟩
            have hb5' := below_next hby hb5
            have hown5 := ownsRow_below (hownq.alloc (.cells (l[k]).arr 41)) hb5
            have hs5 := hb5'.size
            cases hof : of l[i] l[k] with
            | false =>
              have hst := Lib.hid (pairStep_not of l i (pairRowE of l (pairToE of l i) i k) k hlt hkt (.inr hof))
              clear hof hb5
              go_wp2_with fail
              go_roundw
              case rel => exact ⟨k + 1, by omega, by go_num, ⟨A3, c3, by rw [hsucc.out, hst.out], by rw [hsucc.out, hst.out]; exact hown5⟩, hb5'⟩
              case measure => simp [intOf]; omega
            | true =>
              have hst := Lib.hid (pairStep_put of l i (pairRowE of l (pairToE of l i) i k) k hlt hkt Hik.out hof)
              clear hof hb5
              go_wp2_with fail
              refine (put_any A3 (pairRowE of l (pairToE of l i) i k) c3 i k _ (Rd.of_own hown5) (by omega)).mono ?_
              rintro e w6 ⟨A4, c4, rfl, hown6, hb6⟩
              go_wp2_with fail
              go_roundw
              case rel => exact ⟨k + 1, by omega, by go_num, ⟨A4, c4, by rw [hsucc.out, hst.out], by rw [hsucc.out, hst.out]; exact ownsRow_less hown6 (by have := Hszx.out; omega)⟩, below_next hb5' hb6⟩
              case measure => simp [intOf]; omega
        · obtain rfl : k = l.length := by omega
          have hsucc := Lib.hid (pairToE_succ of l i)
          go_wp2_with fail
          go_roundw
          case rel => exact ⟨i + 1, by omega, by go_num, ⟨A3, c3, by rw [hsucc.out], by rw [hsucc.out]; exact hownq⟩, below_then hbx hbq (by have := Hszx.out; omega)⟩
          case measure => simp [intOf]; omega
    · obtain rfl : i = l.length := by omega
      go_wp2_with fail
      go_ret
      exact RetRel.of (A := A2) (n := (pairToE of l l.length).length) (c := c2) (ownsRow_less hown (by omega)) (hbw.trans (hb.mono (by omega)))

theorem ent_inner1 : Ent 27 := fun _ _ => by kernel_rfl
def innerL (l : List Ev) : Rel := pairsE (fun x y => x.thread == y.thread) l
set_option maxHeartbeats 400000 in
theorem inner_any (A : Option Addr) (l : List Ev) (c : Nat) (v1 v2 v3 v4 v5 v6 : Value) (w : World) (hr : Rd w w.heap.size A (ecells l)) (hl : l.length ≤ 1000000) :
    Calls Try.prog 15 #[.agg #[.slice A l.length c, v1, v2, v3, v4, v5, v6]] w (RetRel w.heap.size w (innerL l)) := by
  go_enter Try.func15, Try.ntmps15
  go_wp2_with fail
  have hb0 : Below w.heap.size w (w.alloc (.cells #[.slice A l.length c, v1, v2, v3, v4, v5, v6] 28)) := (Below.refl _ _).alloc (Nat.le_refl _) _
  refine (pairsE_any 27 ent_inner1 _ inner1_any A l c v1 v2 v3 v4 v5 v6 _ (hr.all hb0) hl).mono ?_
  rintro e w1 ⟨A1, c1, rfl, hown1, hb1⟩
  have hb := below_next hb0 hb1
  have hown := ownsRow_less hown1 hb0.size
  clear hb1 hown1 hb0
  go_wp2_with fail
  go_ret
  exact RetRel.of (A := A1) (n := (innerL l).length) (c := c1) hown hb

set_option maxHeartbeats 1600000 in
/-- Mask, of a function that has captured one variable. -/
theorem mask_any (F : Nat) (hE : Ent F) (of : Ev → Bool) (c0 : Value) (A : Option Addr) (l : List Ev) (c : Nat) (v1 v2 v3 v4 v5 v6 : Value) (w : World)
    (hF : ∀ (x : Ev) (W : World), Below w.heap.size w W → Calls Try.prog F #[.agg x.arr, c0] W fun e w' => e = .returned (.bool (of x)) ∧ Below W.heap.size W w')
    (hr : Rd w w.heap.size A (ecells l)) (hl : l.length ≤ 32) :
    Calls Try.prog 29 #[.agg #[.slice A l.length c, v1, v2, v3, v4, v5, v6], .func (.func F) #[] #[c0]] w fun e w' => e = .returned (.int .u32 ((maskE of l).toNat : Int)) ∧ Below w.heap.size w w' := by
  have HF := Lib.hid hF
  clear hF
  unfold Ent at hE
  go_enter Try.func29, Try.ntmps29
  go_wp2_with fail
  have hcE0 : (w.alloc (Obj.cells #[Value.slice A l.length c, v1, v2, v3, v4, v5, v6] 28)).cell? ⟨w.heap.size, 0, none⟩ = some (.slice A l.length c) := cell_new _ _ _ 0 _ rfl
  have hbw : Below w.heap.size w (w.alloc (Obj.cells #[Value.slice A l.length c, v1, v2, v3, v4, v5, v6] 28)) := (Below.refl _ _).alloc (Nat.le_refl _) _
  go_loopw [5, 11] (fun v i wr => ∃ k : Nat, k ≤ l.length ∧ i = .int .i64 k ∧ v = .int .u32 ((maskTo of l k).toNat : Int) ∧ Below w.heap.size w wr)
    (fun _ i _ => l.length - (intOf i).toNat)
  case atStart => exact ⟨0, Nat.zero_le _, rfl, rfl, hbw⟩
  case round =>
    obtain ⟨k, hk, rfl, rfl, hb⟩ := hrel
    clear hcE0 hbw
    by_cases hlt : k < l.length
    · have hrr := hr.below hb
      obtain ⟨b, off, rfl, hB, hc⟩ := hrr.at_ev hlt
      obtain ⟨d0, d1, d2, d3, d4, d5, d6⟩ := hc k hlt
      have hby : Below w.heap.size w (wr.alloc (.cells (l[k]).arr 41)) := hb.alloc hb.size _
      have hk32 : k < 32 := by omega
      have hsucc := maskTo_succ of l k hlt
      clear hc
      have hcall := Lib.hid (HF.out l[k] _ hby)
      cases hof : of l[k] with
      | true =>
        rw [hof, if_pos rfl] at hsucc
        rw [hof] at hcall
        have Hs := Lib.hid hsucc
        clear hsucc hof
        go_wp2_with fail
        refine hcall.out.mono ?_
        rintro e w5 ⟨rfl, hb5⟩
        have hb' := below_then hby hb5 hby.size
        clear hb5
        go_wp2_with fail
        go_roundw
        case rel => exact ⟨k + 1, by omega, by go_num, by rw [Hs.out, ← bits_or, ← bitv_int], hb'⟩
        case measure => simp [intOf]; omega
      | false =>
        rw [hof] at hsucc hcall
        have Hs := Lib.hid hsucc
        clear hsucc hof
        go_wp2_with fail
        refine hcall.out.mono ?_
        rintro e w5 ⟨rfl, hb5⟩
        have hb' := below_then hby hb5 hby.size
        clear hb5
        go_wp2_with fail
        go_roundw
        case rel => exact ⟨k + 1, by omega, by go_num, by rw [Hs.out]; rfl, hb'⟩
        case measure => simp [intOf]; omega
    · obtain rfl : k = l.length := by omega
      go_wp2_with fail
      go_ret
      exact ⟨rfl, hb⟩

end Go.Proofs.Ytchhmfgeafnmkaa
