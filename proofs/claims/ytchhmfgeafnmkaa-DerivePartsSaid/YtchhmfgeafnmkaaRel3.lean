/-
  The functions of package rel, the last: what is made of two relations row by row, Same, Inv, Cross.
-/
import Derived.Test.YtchhmfgeafnmkaaRel2
namespace Go.Proofs.Ytchhmfgeafnmkaa
open Go.RowKit

theorem or1_any (x y : U32) (w : World) : Calls Try.prog 19 #[.int .u32 (x.toNat : Int), .int .u32 (y.toNat : Int)] w fun e w' => e = .returned (.int .u32 ((x ||| y).toNat : Int)) ∧ w = w' := by
  go_enter Try.func19, Try.ntmps19
  go_wp2
  go_ret
  exact ⟨by rw [← bits_or]; rfl, rfl⟩
theorem and1_any (x y : U32) (w : World) : Calls Try.prog 22 #[.int .u32 (x.toNat : Int), .int .u32 (y.toNat : Int)] w fun e w' => e = .returned (.int .u32 ((x &&& y).toNat : Int)) ∧ w = w' := by
  go_enter Try.func22, Try.ntmps22
  go_wp2
  go_ret
  exact ⟨by rw [← bits_and]; rfl, rfl⟩

/-- A function of the text is entered where it is called. -/
def Ent (F : Nat) : Prop := ∀ (args : Array Value) (w : World), (callFunc F args).run Try.prog w = .ok (.enter F args) w
theorem ent_or1 : Ent 19 := fun _ _ => by kernel_rfl
theorem ent_and1 : Ent 22 := fun _ _ => by kernel_rfl

set_option maxHeartbeats 1600000 in
theorem both_any (F : Nat) (hE : Ent F) (f : U32 → U32 → U32) (hF : ∀ x y w, Calls Try.prog F #[.int .u32 (x.toNat : Int), .int .u32 (y.toNat : Int)] w fun e w' => e = .returned (.int .u32 ((f x y).toNat : Int)) ∧ w = w')
    (A A' : Option Addr) (r r' : Rel) (c c' : Nat) (w : World) (hr : Rd w w.heap.size A (us r)) (hr' : Rd w w.heap.size A' (us r')) (hl : r.length ≤ 1000000) (hl' : r'.length ≤ 1000000) :
    Calls Try.prog 18 #[.slice A r.length c, .slice A' r'.length c', .func (.func F) #[] #[]] w (RetRel w.heap.size w (bothL f r r')) := by
  have hle := clean_le r
  have hle' := clean_le r'
  have HF := Lib.hid hF
  clear hF
  unfold Ent at hE
  go_enter Try.func18, Try.ntmps18
  go_wp2_with fail
  refine (clean_any A r c _ hr hl).mono ?_
  rintro e w1 ⟨A1, c1, rfl, hown1, hb1⟩
  have hr1 := hr'.all hb1
  clear hr hr'
  go_wp2_with fail
  refine (clean_any A' r' c' _ hr1 hl').mono ?_
  rintro e w2 ⟨A2, c2, rfl, hown2, hb2⟩
  clear hr1
  have hown := ownsRow_below hown1 hb2
  have hg1 : ∀ q, (Value.slice A1 (clean r).length c1).ownBlock = some q → q < w1.heap.size := fun q hq => (hown1.lt q hq).2
  have hb := below_next hb1 hb2
  clear hown1
  by_cases heq : (clean r).length = (clean r').length
  · have ht : (((clean r).length : Int) != ((clean r').length : Int)) = false := by rw [heq]; simp
    have H := Lib.hid (bothL_yes f r r' heq)
    have Heq := Lib.hid heq
    clear heq
    go_wp2_with fail
    go_loopw [22] (fun i wr => ∃ k : Nat, k ≤ (clean r).length ∧ i = .int .i64 k ∧ wr.ownsRow w.heap.size 33 1 (.slice A1 (clean r).length c1) (clean r).length (us (roundTo (fun i x => f x ((clean r').getD i 0)) (clean r) k)) ∧
        wr.ownsRow w1.heap.size 33 1 (.slice A2 (clean r').length c2) (clean r').length (us (clean r')) ∧ Below w.heap.size w wr)
      (fun i _ => (clean r).length - (intOf i).toNat)
    case atStart => exact ⟨0, Nat.zero_le _, rfl, by rw [roundTo_zero]; exact hown, hown2, hb⟩
    case round =>
      obtain ⟨k, hk, rfl, hx, hy, hbr⟩ := hrel
      clear hown hown2 hb hb1 hb2
      by_cases hlt : k < (clean r).length
      · have hlt' : k < (clean r').length := by rw [← Heq.out]; exact hlt
        obtain ⟨g, cap, hv, _, hgs⟩ := hx.form (by omega)
        have hA : A1 = some ⟨g, 0, none⟩ := by injection hv
        subst hA
        clear hv
        obtain ⟨g', cap', hv, _, hgs'⟩ := hy.form (by omega)
        have hA : A2 = some ⟨g', 0, none⟩ := by injection hv
        subst hA
        clear hv
        have hgB : w.heap.size ≤ g := (hx.lt g rfl).1
        have hgw : g < w1.heap.size := hg1 g rfl
        have hcg := hx.cellAt k (by omega)
        rw [us_get _ k (by rw [roundTo_length]; exact hlt), roundTo_here _ _ _ hlt] at hcg
        have hcy := hy.cellAt k (by omega)
        rw [us_get _ k hlt'] at hcy
        have hfg := hx.frozenAt k
        have hstep := roundTo_succ (fun i x => f x ((clean r').getD i 0)) (clean r) k hlt
        rw [show (clean r').getD k 0 = (clean r')[k] from by simp [hlt']] at hstep
        have Hstep := Lib.hid hstep
        clear hstep
        go_wp2_with fail
        refine region_tail 13 (by kernel_rfl) (by kernel_rfl) ?_
        simp only [List.take_succ_cons, List.take_zero, List.drop_succ_cons, List.drop_zero]
        repeat (first | still_step | still_call (same_flip (HF.out _ _ _)))
        refine wpStill_nil ?_
        go_wp2_with fail
        go_roundw
        case rel =>
          refine ⟨k + 1, by omega, by go_num, ?_, ownsRow_setCell_below hy.drew (a := ⟨g, k, none⟩) hgw _, hbr.drew.setCell (p := ⟨g, k, none⟩) hgB _⟩
          have h := (hx.drew.stored k (.int .u32 ((f (clean r)[k] (clean r')[k]).toNat : Int))).1
          rw [us_set, Hstep.out] at h
          exact h
        case measure => simp [intOf]; omega
      · obtain rfl : k = (clean r).length := by omega
        rw [roundTo_full] at hx
        go_wp2_with fail
        go_ret
        rw [H.out]
        exact RetRel.of (A := A1) (n := (clean r).length) (c := c1) hx hbr
  · have ht : (((clean r).length : Int) != ((clean r').length : Int)) = true := by rw [bne_iff_ne]; omega
    have H := Lib.hid (bothL_no f r r' heq)
    clear heq
    go_wp2_with fail
    go_ret
    rw [H.out]
    exact RetRel.of (A := some ⟨w2.heap.size, 0, none⟩) (n := 0) (c := 0) (ownsRow_less (World.ownsRow_lit w2 #[] 0 (Nat.le_refl _) (by simp [maxLen]) rfl) hb.size) (hb.alloc hb.size _)

set_option maxHeartbeats 400000 in
theorem or_any (A A' : Option Addr) (r r' : Rel) (c c' : Nat) (w : World) (hr : Rd w w.heap.size A (us r)) (hr' : Rd w w.heap.size A' (us r')) (hl : r.length ≤ 1000000) (hl' : r'.length ≤ 1000000) :
    Calls Try.prog 7 #[.slice A r.length c, .slice A' r'.length c'] w (RetRel w.heap.size w (orL r r')) := by
  go_enter Try.func7, Try.ntmps7
  go_wp2_with fail
  refine (both_any 19 ent_or1 (· ||| ·) or1_any A A' r r' c c' w hr hr' hl hl').mono ?_
  rintro e w1 ⟨A1, c1, rfl, hown1, hb1⟩
  go_wp2_with fail
  go_ret
  exact RetRel.of (A := A1) (n := (orL r r').length) (c := c1) hown1 hb1
set_option maxHeartbeats 400000 in
theorem and_any (A A' : Option Addr) (r r' : Rel) (c c' : Nat) (w : World) (hr : Rd w w.heap.size A (us r)) (hr' : Rd w w.heap.size A' (us r')) (hl : r.length ≤ 1000000) (hl' : r'.length ≤ 1000000) :
    Calls Try.prog 11 #[.slice A r.length c, .slice A' r'.length c'] w (RetRel w.heap.size w (andL r r')) := by
  go_enter Try.func11, Try.ntmps11
  go_wp2_with fail
  refine (both_any 22 ent_and1 (· &&& ·) and1_any A A' r r' c c' w hr hr' hl hl').mono ?_
  rintro e w1 ⟨A1, c1, rfl, hown1, hb1⟩
  go_wp2_with fail
  go_ret
  exact RetRel.of (A := A1) (n := (andL r r').length) (c := c1) hown1 hb1

/-- Are the first k of two lists the same? -/
theorem eq_of_takes {α : Type} (r r' : List α) (h : r.length = r'.length) (hk : ∀ j (h1 : j < r.length) (h2 : j < r'.length), r[j] = r'[j]) : r = r' := List.ext_getElem h hk

set_option maxHeartbeats 800000 in
theorem equal_any (A A' : Option Addr) (r r' : Rel) (c c' : Nat) (w : World) (hr : Rd w w.heap.size A (us r)) (hr' : Rd w w.heap.size A' (us r')) (hl : r.length ≤ 1000000) :
    Calls Try.prog 23 #[.slice A r.length c, .slice A' r'.length c'] w fun e w' => e = .returned (.bool (decide (r = r'))) ∧ Below w.heap.size w w' := by
  by_cases heq : r.length = r'.length
  · have ht : ((r.length : Int) != (r'.length : Int)) = false := by rw [heq]; simp
    have Heq := Lib.hid heq
    clear heq
    go_enter Try.func23, Try.ntmps23
    go_wp2_with fail
    go_loopw [13] (fun i wr => ∃ k : Nat, k ≤ r.length ∧ i = .int .i64 k ∧ (∀ j (h1 : j < r.length) (h2 : j < r'.length), j < k → r[j] = r'[j]) ∧ Below w.heap.size w wr)
      (fun i _ => r.length - (intOf i).toNat)
    case atStart => exact ⟨0, Nat.zero_le _, rfl, fun _ _ _ h => absurd h (by omega), Below.refl _ _⟩
    case round =>
      obtain ⟨k, hk, rfl, hsame, hb⟩ := hrel
      have HS := Lib.hid hsame
      clear hsame
      by_cases hlt : k < r.length
      · have hlt' : k < r'.length := by rw [← Heq.out]; exact hlt
        obtain ⟨b, off, rfl, hB, hc⟩ := (hr.below hb).at_us hlt
        have hck := hc k hlt
        obtain ⟨b', off', rfl, hB', hc'⟩ := (hr'.below hb).at_us hlt'
        have hck' := hc' k hlt'
        have hk0 : (0 : Int) ≤ (k : Int) := by omega
        have hk1 : (k : Int) < (r.length : Int) := by omega
        have hk2 : (k : Int) < (r'.length : Int) := by omega
        clear hc hc' hr hr'
        by_cases hx : r[k] = r'[k]
        · have htest : (((r[k]).toNat : Int) != ((r'[k]).toNat : Int)) = false := by rw [hx]; simp
          have Hx := Lib.hid hx
          clear hx
          go_wp2_with fail
          go_quiet (fail)
          go_wp2_with fail
          go_roundw
          case rel =>
            refine ⟨k + 1, by omega, by go_num, fun j h1 h2 hj => ?_, below_drewN hb _⟩
            by_cases hjk : j = k
            · subst hjk; exact Hx.out
            · exact HS.out j h1 h2 (by omega)
          case measure => simp [intOf]; omega
        · have htest : (((r[k]).toNat : Int) != ((r'[k]).toNat : Int)) = true := by
            rw [bne_iff_ne]; intro h; exact hx (BitVec.eq_of_toNat_eq (by omega))
          have Hx : Hid (decide (r = r') = false) := by
            unfold Hid; apply decide_eq_false; intro h; subst h; exact hx rfl
          clear hx
          go_wp2_with fail
          go_quiet (fail)
          go_wp2_with fail
          go_ret
          exact ⟨by rw [Hx.out]; rfl, below_drewN hb _⟩
      · have Hx : Hid (decide (r = r') = true) := by
          unfold Hid; apply decide_eq_true; exact eq_of_takes _ _ Heq.out (fun j h1 h2 => HS.out j h1 h2 (by omega))
        obtain rfl : k = r.length := by omega
        go_wp2_with fail
        go_ret
        exact ⟨by rw [Hx.out]; rfl, hb⟩
  · have ht : ((r.length : Int) != (r'.length : Int)) = true := by rw [bne_iff_ne]; omega
    have Hx : Hid (decide (r = r') = false) := by
      unfold Hid; apply decide_eq_false; intro h; subst h; exact heq rfl
    clear heq hr hr'
    go_enter Try.func23, Try.ntmps23
    go_wp2_with fail
    go_ret
    exact ⟨by rw [Hx.out]; rfl, Below.refl _ _⟩

set_option maxHeartbeats 400000 in
theorem same_any (A A' : Option Addr) (r r' : Rel) (c c' : Nat) (w : World) (hr : Rd w w.heap.size A (us r)) (hr' : Rd w w.heap.size A' (us r')) (hl : r.length ≤ 1000000) (hl' : r'.length ≤ 1000000) :
    Calls Try.prog 12 #[.slice A r.length c, .slice A' r'.length c'] w fun e w' => e = .returned (.bool (sameB r r')) ∧ Below w.heap.size w w' := by
  have hle := clean_le r
  go_enter Try.func12, Try.ntmps12
  go_wp2_with fail
  refine (clean_any A r c _ hr hl).mono ?_
  rintro e w1 ⟨A1, c1, rfl, hown1, hb1⟩
  have hr1 := hr'.all hb1
  clear hr hr'
  go_wp2_with fail
  refine (clean_any A' r' c' _ hr1 hl').mono ?_
  rintro e w2 ⟨A2, c2, rfl, hown2, hb2⟩
  clear hr1
  have hx := Rd.of_own (ownsRow_below hown1 hb2)
  have hy := Rd.of_own hown2
  have hb := below_next hb1 hb2
  clear hown1 hown2 hb1 hb2
  go_wp2_with fail
  refine (equal_any A1 A2 (clean r) (clean r') c1 c2 w2 hx hy (by omega)).mono ?_
  rintro e w3 ⟨rfl, hb3⟩
  go_wp2_with fail
  go_ret
  exact ⟨rfl, below_next hb hb3⟩

end Go.Proofs.Ytchhmfgeafnmkaa
