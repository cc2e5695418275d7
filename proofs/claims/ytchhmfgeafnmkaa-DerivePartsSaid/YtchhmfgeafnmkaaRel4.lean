/-
  The functions of package rel: Inv, Cross.
-/
import Derived.Test.YtchhmfgeafnmkaaRel3
namespace Go.Proofs.Ytchhmfgeafnmkaa
open Go.RowKit

theorem pcells_get (l : List (Int × Int)) (i : Nat) (h : i < l.length) : (pcells l)[i * 2]? = some (.int .i64 (l[i]).1) ∧ (pcells l)[i * 2 + 1]? = some (.int .i64 (l[i]).2) := by
  induction l generalizing i with
  | nil => simp at h
  | cons p l ih =>
    cases i with
    | zero => simp [pcells]
    | succ i =>
      have := ih i (by simpa using h)
      simp only [pcells, List.flatMap_cons, List.cons_append, List.nil_append] at *
      rw [show (i + 1) * 2 = i * 2 + 1 + 1 from by omega, show i * 2 + 1 + 1 + 1 = (i * 2 + 1) + 1 + 1 from rfl]
      simpa using this
theorem pairs_range (a : Rel) (i : Nat) (h : i < (pairsL (clean a)).length) : ∃ x y : Nat, (pairsL (clean a))[i] = ((x : Int), (y : Int)) ∧ x < (clean a).length ∧ y < (clean a).length := by
  obtain ⟨x, y, he, hx, hy, _⟩ := (mem_pairsL (clean a) (pairsL (clean a))[i]).1 (List.getElem_mem h)
  exact ⟨x, y, he, Nat.lt_of_lt_of_le hx (clean_le' _), hy⟩

set_option maxHeartbeats 1600000 in
theorem inv_any (A : Option Addr) (r : Rel) (c : Nat) (w : World) (hr : Rd w w.heap.size A (us r)) (hl : r.length ≤ 1000000) :
    Calls Try.prog 13 #[.slice A r.length c] w (RetRel w.heap.size w (invL r)) := by
  obtain ⟨i0, hi, hz0, hz1, hz2⟩ := info_parts info_u32
  have hle := clean_le r
  have hpl := pairsL_le (clean r)
  have hinv0 : Hid (invTo r 0 = List.replicate (clean r).length 0) := by unfold Hid invTo; simp
  go_enter Try.func13, Try.ntmps13
  go_wp2_with fail
  refine (clean_any A r c _ hr hl).mono ?_
  rintro e w1 ⟨A1, c1, rfl, hown1, hb1⟩
  clear hr
  go_wp2_with (at_make; refine wpList_make_full _ rfl _ _ 25 rfl w1.heap.size 33 i0 (.int .u32 0) 1 Try.underlying25 hi hz0 hz1 _ _ _ _ (clean r).length rfl rfl rfl rfl (by rw [hz2]; omega) (by unfold maxLen; omega) (Nat.le_refl _) ?_; intro w2 hown2 hgrow)
  have hb2 : Below w1.heap.size w1 w2 := (Below.refl _ _).grown hgrow (Nat.le_refl _) (by simp)
  have hs2 : w1.heap.size < w2.heap.size ∨ (clean r).length = 0 := by
    by_cases h : 0 < (clean r).length
    · exact .inl (hown2.lt w1.heap.size rfl).2
    · exact .inr (by omega)
  have hrd := Rd.of_own (ownsRow_below hown1 hb2)
  refine (pairs_any A1 (clean r) c1 _ hrd (by omega)).mono ?_
  rintro e w3 ⟨A3, c3, rfl, hown3, hb3⟩
  have hout := ownsRow_below hown2 hb3
  rw [← us_zeros, ← hinv0.out] at hout
  have hb := below_next (below_next hb1 hb2) hb3
  have hsz1 := hb1.size
  clear hrd hown1 hgrow hown2 hb1
  go_wp2_with fail
  go_loopw [15] (fun i wr => ∃ k : Nat, k ≤ (pairsL (clean r)).length ∧ i = .int .i64 k ∧ wr.ownsRow w1.heap.size 33 1 (.slice (some ⟨w1.heap.size, 0, none⟩) (clean r).length (clean r).length) (clean r).length (us (invTo r k)) ∧
      wr.ownsRow w2.heap.size 46 2 (.slice A3 (pairsL (clean r)).length c3) (pairsL (clean r)).length (pcells (pairsL (clean r))) ∧ Below w.heap.size w wr)
    (fun i _ => (pairsL (clean r)).length - (intOf i).toNat)
  case atStart => exact ⟨0, Nat.zero_le _, rfl, hout, hown3, hb⟩
  case round =>
    obtain ⟨k, hk, rfl, hx, hy, hbr⟩ := hrel
    clear hout hown3 hb hb2 hb3
    by_cases hlt : k < (pairsL (clean r)).length
    · obtain ⟨x, y, hxy, hx1, hy1⟩ := pairs_range r k hlt
      have hx0 : (0 : Int) ≤ (y : Int) := by omega
      have hx2 : (y : Int) < ((clean r).length : Int) := by omega
      have hx3 : (0 : Int) ≤ (x : Int) := by omega
      have hx4 : min x 32 = x := by omega
      have hw12 : w1.heap.size < w2.heap.size := by omega
      obtain ⟨g, cap, hv, _, hgs⟩ := hy.form (by omega)
      have hA : A3 = some ⟨g, 0, none⟩ := by injection hv
      subst hA
      clear hv
      have hc1 := hy.cellAt (k * 2) (by omega)
      have hc2 := hy.cellAt (k * 2 + 1) (by omega)
      rw [(pcells_get _ k hlt).1, hxy] at hc1
      rw [(pcells_get _ k hlt).2, hxy] at hc2
      dsimp only at hc1 hc2
      have hlen := invTo_length r k
      have hyl : y < (invTo r k).length := by rw [hlen]; exact hy1
      have hcx := hx.cellAt y (by omega)
      rw [us_get _ y hyl] at hcx
      have hfx := hx.frozenAt y
      have Hlen := Lib.hid hlen
      clear hlen
      have hstep : Hid ((invTo r k).set y ((invTo r k)[y] ||| bitv x) = invTo r (k + 1)) := by
        unfold Hid; rw [invTo_succ r k hlt, hxy]; simp [invStep, hyl]
      have Hxy := Lib.hid hxy
      clear hxy
      have hcx' := cell_alloc hcx (Obj.cells #[Value.int .i64 x, Value.int .i64 y] 46)
      have hfx' := frozen_alloc hcx hfx (Obj.cells #[Value.int .i64 x, Value.int .i64 y] 46)
      go_wp2_with fail
      refine region_tail 11 (by kernel_rfl) (by kernel_rfl) ?_
      simp only [List.take_succ_cons, List.take_zero, List.drop_succ_cons, List.drop_zero]
      repeat still_step
      refine wpStill_nil ?_
      go_wp2_with fail
      go_roundw
      case rel =>
        refine ⟨k + 1, by omega, by go_num, ?_, ownsRow_setCell_below (hy.alloc _).drew (a := ⟨w1.heap.size, y, none⟩) (by exact hw12) _, (hbr.alloc hbr.size _).drew.setCell (p := ⟨w1.heap.size, y, none⟩) hsz1 _⟩
        have h := ((hx.alloc (Obj.cells #[Value.int .i64 x, Value.int .i64 y] 46)).drew.stored y (.int .u32 (((invTo r k)[y] ||| bitv x).toNat : Int))).1
        rw [us_set, hstep.out, ← bits_or, ← bitv_int] at h
        exact h
      case measure => simp [intOf]; omega
    · obtain rfl : k = (pairsL (clean r)).length := by omega
      rw [invTo_full] at hx
      go_wp2_with fail
      go_ret
      exact RetRel.of (A := some ⟨w1.heap.size, 0, none⟩) (n := (clean r).length) (c := (clean r).length) (ownsRow_less hx hsz1) hbr

set_option maxHeartbeats 800000 in
theorem cross_any (n : Int) (f t : U32) (w : World) :
    Calls Try.prog 24 #[.int .i64 n, .int .u32 (f.toNat : Int), .int .u32 (t.toNat : Int)] w (RetRel w.heap.size w (crossL n f t)) := by
  have hle := newL_le n
  go_enter Try.func24, Try.ntmps24
  go_wp2_with fail
  refine (new_any n _).mono ?_
  rintro e w1 ⟨A1, c1, rfl, hown, hbel⟩
  go_wp2_with fail
  go_loopw [13] (fun i wr => ∃ k : Nat, k ≤ (newL n).length ∧ i = .int .i64 k ∧ wr.ownsRow w.heap.size 33 1 (.slice A1 (newL n).length c1) (newL n).length (us (roundTo (fun _ _ => all32 n.toNat) (newL n) k)) ∧ Below w.heap.size w wr)
    (fun i _ => (newL n).length - (intOf i).toNat)
  case atStart => exact ⟨0, Nat.zero_le _, rfl, by rw [roundTo_zero]; exact hown, hbel⟩
  case round =>
    obtain ⟨k, hk, rfl, hown, hb⟩ := hrel
    clear hbel
    by_cases hlt : k < (newL n).length
    · have hn : 0 ≤ n ∧ n ≤ 32 := by
        by_cases h : 0 ≤ n ∧ n ≤ 32
        · exact h
        · unfold newL at hlt; rw [if_neg h] at hlt; simp at hlt
      obtain ⟨hn0, hn1⟩ := hn
      obtain ⟨n, rfl⟩ := Int.eq_ofNat_of_zero_le hn0
      have hn2 : n ≤ 32 := by omega
      obtain ⟨g, cap, hv, _, hgs⟩ := hown.form (by omega)
      have hA : A1 = some ⟨g, 0, none⟩ := by injection hv
      subst hA
      clear hv
      have hgB : w.heap.size ≤ g := (hown.lt g rfl).1
      have hcg := hown.cellAt k (by omega)
      rw [us_get _ k (by rw [roundTo_length]; exact hlt)] at hcg
      have hfg := hown.frozenAt k
      have hstep := roundTo_succ (fun _ _ => all32 (n : Int).toNat) (newL n) k hlt
      rw [Int.toNat_natCast] at hstep
      have Hstep := Lib.hid hstep
      clear hstep
      go_wp2_with (go_at_call 28; refine (all_any n hn2 _).mono ?_; rintro e w2 ⟨rfl, rfl⟩)
      go_roundw
      case rel =>
        refine ⟨k + 1, by omega, by go_num, ?_, hb.setCell (p := ⟨g, k, none⟩) hgB _⟩
        have h := (hown.stored k (.int .u32 ((all32 n).toNat : Int))).1
        rw [us_set, Int.toNat_natCast, Hstep.out] at h
        exact h
      case measure => simp [intOf]; omega
    · obtain rfl : k = (newL n).length := by omega
      rw [roundTo_full] at hown
      have hlm : (newL n).length = ((newL n).mapIdx fun _ _ => all32 n.toNat).length := by simp
      have hrd := Rd.of_own hown
      have Hlm := Lib.hid hlm
      clear hlm
      go_wp2_with fail
      rw [Hlm.out]
      refine (only_any A1 ((newL n).mapIdx fun _ _ => all32 n.toNat) c1 f t _ hrd (by rw [← Hlm.out]; omega)).mono ?_
      rintro e w3 ⟨A3, c3, rfl, hown3, hb3⟩
      go_wp2_with fail
      go_ret
      exact RetRel.of (A := A3) (n := (onlyL ((newL n).mapIdx fun _ _ => all32 n.toNat) f t).length) (c := c3) (ownsRow_less hown3 hb.size) (below_then hb hb3 hb.size)

end Go.Proofs.Ytchhmfgeafnmkaa
