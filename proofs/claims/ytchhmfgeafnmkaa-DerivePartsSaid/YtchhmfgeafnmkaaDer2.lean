/-
  What comes behind what a read reads (derive.behind), and from-reads (derive.Fr), by walks.
-/
import Derived.Test.YtchhmfgeafnmkaaDer
import Derived.Deep.RegionHeld3
import Derived.Deep.DrawnRows
namespace Go.Proofs.Ytchhmfgeafnmkaa
open Go.RowKit
set_option linter.unusedVariables false

theorem afterTo_succ (w : Int) (co : Rel) (k : Nat) : afterTo w co (k + 1) = if hasI co w k then afterTo w co k ||| bitv k else afterTo w co k := by
  simp [afterTo, List.range_succ]
theorem behindL_init (l : List Ev) (r : Nat) (w : Int) (co : Rel) (hr : r < l.length) (h : w = -1) : behindL l r w co = maskE (fun x => x.kind == 2 && x.loc == (l[r]).loc) l := by
  simp [behindL, h, hr]
theorem behindL_no (l : List Ev) (r : Nat) (w : Int) (co : Rel) (h : w ≠ -1) (h' : w < 0 ∨ (l.length : Int) ≤ w) : behindL l r w co = 0 := by
  unfold behindL
  rw [if_neg h, if_pos]
  rcases h' with h' | h'
  · exact .inl h'
  · exact .inr (.inl h')
theorem behindL_not (l : List Ev) (r : Nat) (w : Nat) (co : Rel) (hw : w < l.length) (h' : (l[w]).kind ≠ 2) : behindL l r w co = 0 := by
  unfold behindL
  rw [if_neg (by omega), if_pos]
  exact .inr (.inr (by simpa [hw] using h'))
theorem behindL_yes (l : List Ev) (r : Nat) (w : Nat) (co : Rel) (hw : w < l.length) (h' : (l[w]).kind = 2) : behindL l r w co = afterTo w co l.length := by
  unfold behindL
  rw [if_neg (by omega), if_neg]
  simp [hw, h']

def RetU32 (w : World) (x : U32) (e : Ending) (w' : World) : Prop := e = .returned (.int .u32 (x.toNat : Int)) ∧ Below w.heap.size w w'

set_option maxHeartbeats 1600000 in
theorem behind_any (A : Option Addr) (l : List Ev) (c : Nat) (v1 v2 v3 v4 v5 v6 : Value) (r : Nat) (wr0 : Int) (A' : Option Addr) (co : Rel) (c' : Nat) (w : World) (hr : Rd w w.heap.size A (ecells l)) (hl : l.length ≤ 32)
    (hrl : r < l.length) (hr' : Rd w w.heap.size A' (us co)) :
    Calls Try.prog 25 #[.agg #[.slice A l.length c, v1, v2, v3, v4, v5, v6], .int .i64 r, .int .i64 wr0, .slice A' co.length c'] w (RetU32 w (behindL l r wr0 co)) := by
  have hcE0 : (w.alloc (Obj.cells #[Value.slice A l.length c, v1, v2, v3, v4, v5, v6] 28)).cell? ⟨w.heap.size, 0, none⟩ = some (.slice A l.length c) := cell_new _ _ _ 0 _ rfl
  have hbw : Below w.heap.size w (w.alloc (Obj.cells #[Value.slice A l.length c, v1, v2, v3, v4, v5, v6] 28)) := (Below.refl _ _).alloc (Nat.le_refl _) _
  by_cases hi : wr0 = -1
  · have H := Lib.hid (behindL_init l r wr0 co hrl hi)
    subst hi
    obtain ⟨b, off, rfl, hB, hc⟩ := hr.at_ev hrl
    have hx := (hc r hrl).c2
    clear hc
    go_enter Try.func25, Try.ntmps25
    go_wp2_with fail
    have hb2 : Below w.heap.size w ((w.alloc (Obj.cells #[Value.slice (some ⟨b, off, none⟩) l.length c, v1, v2, v3, v4, v5, v6] 28)).alloc (Obj.cells #[Value.int .i64 (l[r]).loc] 3)) := hbw.alloc hbw.size _
    refine (mask_any 30 ent_behind1 _ _ (some ⟨b, off, none⟩) l c v1 v2 v3 v4 v5 v6 _ (behind1_any (w.heap.size + 1) (l[r]).loc _ (by simp) ?_) (hr.all hb2) hl).mono ?_
    · rw [World.cell?_alloc_at _ _ _ _ (by simp)]; rfl
    rintro e w3 ⟨rfl, hb3⟩
    have hb := below_next hb2 hb3
    clear hb3 hb2 hcE0 hbw hr hr'
    go_wp2_with fail
    go_ret
    exact ⟨by rw [H.out]; rfl, hb⟩
  · have hti : ((wr0 : Int) == -1) = false := beq_eq_false_iff_ne.2 hi
    by_cases hout : wr0 < 0 ∨ (l.length : Int) ≤ wr0
    · have H := Lib.hid (behindL_no l r wr0 co hi hout)
      clear hi
      rcases hout with hout | hout
      · go_enter Try.func25, Try.ntmps25
        go_wp2_with fail
        go_ret
        exact ⟨by rw [H.out]; rfl, hbw⟩
      · have h0 : 0 ≤ wr0 := by omega
        go_enter Try.func25, Try.ntmps25
        go_wp2_with fail
        go_ret
        exact ⟨by rw [H.out]; rfl, hbw⟩
    · have h0 : 0 ≤ wr0 := by omega
      obtain ⟨wn, rfl⟩ := Int.eq_ofNat_of_zero_le h0
      have hwn : wn < l.length := by omega
      obtain ⟨b, off, rfl, hB, hc⟩ := hr.at_ev hwn
      have hx := (hc wn hwn).c1
      clear hc hi hout
      by_cases hk2 : (l[wn]).kind = 2
      · have H := Lib.hid (behindL_yes l r wn co hwn hk2)
        have htk : ((l[wn]).kind != 2) = false := by rw [hk2]; rfl
        have hd1 : decide ((wn : Int) < 0) = false := by simp
        have hd2 : decide (l.length ≤ wn) = false := by simp; omega
        clear hk2
        go_enter Try.func25, Try.ntmps25
        go_wp2_with fail
        go_loopw [10, 46] (fun v i wr => ∃ k : Nat, k ≤ l.length ∧ i = .int .i64 k ∧ v = .int .u32 ((afterTo wn co k).toNat : Int) ∧ Below w.heap.size w wr)
          (fun _ i _ => l.length - (intOf i).toNat)
        case atStart => exact ⟨0, Nat.zero_le _, rfl, rfl, hbw⟩
        case round =>
          obtain ⟨k, hk, rfl, rfl, hb⟩ := hrel
          clear hcE0 hbw
          by_cases hlt : k < l.length
          · have hk32 : k < 32 := by omega
            have hsucc := afterTo_succ wn co k
            have hcall := has_any A' co c' wn k wr ((hr'.below hb).mono hb.size)
            cases hof : hasI co wn k with
            | true =>
              rw [hof, if_pos rfl] at hsucc
              rw [hof] at hcall
              have Hs := Lib.hid hsucc
              have Hcall := Lib.hid hcall
              clear hsucc hof hcall
              go_wp2_with fail
              refine Hcall.out.mono ?_
              rintro e w5 ⟨rfl, rfl⟩
              go_wp2_with fail
              go_roundw
              case rel => exact ⟨k + 1, by omega, by go_num, by rw [Hs.out, ← bits_or, ← bitv_int], hb⟩
              case measure => simp [intOf]; omega
            | false =>
              rw [hof] at hsucc hcall
              have Hs := Lib.hid hsucc
              have Hcall := Lib.hid hcall
              clear hsucc hof hcall
              go_wp2_with fail
              refine Hcall.out.mono ?_
              rintro e w5 ⟨rfl, rfl⟩
              go_wp2_with fail
              go_roundw
              case rel => exact ⟨k + 1, by omega, by go_num, by rw [Hs.out]; rfl, hb⟩
              case measure => simp [intOf]; omega
          · obtain rfl : k = l.length := by omega
            go_wp2_with fail
            go_ret
            exact ⟨by rw [H.out]; rfl, hb⟩
      · have H := Lib.hid (behindL_not l r wn co hwn hk2)
        have htk : ((l[wn]).kind != 2) = true := by rw [bne_iff_ne]; exact hk2
        clear hk2
        go_enter Try.func25, Try.ntmps25
        go_wp2_with fail
        go_ret
        exact ⟨by rw [H.out]; rfl, hbw⟩

/-- From-reads: read by read. -/
def frStep (l : List Ev) (co : Rel) (from_ : List Int) (o : Rel) (r : Nat) : Rel := orL o (crossL l.length (bitv r) (minus (behindL l r (from_.getD r 0) co) (bitv r)))
def frTo (l : List Ev) (from_ : List Int) (co : Rel) (k : Nat) : Rel := (List.range k).foldl (frStep l co from_) (newL l.length)
def frL (l : List Ev) (from_ : List Int) (co : Rel) : Rel := frTo l from_ co (min from_.length l.length)
theorem frTo_succ (l : List Ev) (from_ : List Int) (co : Rel) (k : Nat) : frTo l from_ co (k + 1) = frStep l co from_ (frTo l from_ co k) k := by simp [frTo, List.range_succ]
theorem frTo_le (l : List Ev) (from_ : List Int) (co : Rel) (k : Nat) : (frTo l from_ co k).length ≤ 32 := by
  cases k with
  | zero => simpa [frTo] using newL_le _
  | succ k => rw [frTo_succ]; exact orL_le _ _
theorem frL_le (l : List Ev) (from_ : List Int) (co : Rel) : (frL l from_ co).length ≤ 32 := frTo_le _ _ _ _

set_option maxHeartbeats 3200000 in
theorem fr_any (A : Option Addr) (l : List Ev) (c : Nat) (v1 v2 v3 v4 v5 v6 : Value) (A2 : Option Addr) (from_ : List Int) (c2 : Nat) (A' : Option Addr) (co : Rel) (c' : Nat) (w : World) (hr : Rd w w.heap.size A (ecells l)) (hl : l.length ≤ 32)
    (hr2 : Rd w w.heap.size A2 (is from_)) (hl2 : from_.length ≤ 1000000) (hr' : Rd w w.heap.size A' (us co)) :
    Calls Try.prog 14 #[.agg #[.slice A l.length c, v1, v2, v3, v4, v5, v6], .slice A2 from_.length c2, .slice A' co.length c'] w (RetRel w.heap.size w (frL l from_ co)) := by
  have hnl := newL_le l.length
  rcases (show from_.length ≤ l.length ∨ l.length < from_.length from by omega) with hmin | hmin
  all_goals
    go_enter Try.func14, Try.ntmps14
    go_wp2_with fail
    have hE0 : ∀ j v, #[Value.slice A l.length c, v1, v2, v3, v4, v5, v6][j]? = some v → (w.alloc (Obj.cells #[Value.slice A l.length c, v1, v2, v3, v4, v5, v6] 28)).cell? ⟨w.heap.size, j, none⟩ = some v := fun j v h => cell_new _ _ _ j _ h
    have hbw : Below w.heap.size w (w.alloc (Obj.cells #[Value.slice A l.length c, v1, v2, v3, v4, v5, v6] 28)) := (Below.refl _ _).alloc (Nat.le_refl _) _
    have hsz0 : (w.alloc (Obj.cells #[Value.slice A l.length c, v1, v2, v3, v4, v5, v6] 28)).heap.size = w.heap.size + 1 := by simp
    refine (new_any _ _).mono ?_
    rintro e w1 ⟨A1, c1, rfl, hown1, hb1⟩
    rw [hsz0] at hown1 hb1
    obtain ⟨w0, hW⟩ : ∃ w0 : World, w.alloc (Obj.cells #[Value.slice A l.length c, v1, v2, v3, v4, v5, v6] 28) = w0 := ⟨_, rfl⟩
    rw [hW] at hE0 hbw hb1 hsz0
    have hsz := Lib.hid hsz0
    have hE := Lib.hid hE0
    clear hsz0 hW hE0
    go_wp2_with fail
    go_loopw [8, 20] (fun v i wr => ∃ k : Nat, k ≤ min from_.length l.length ∧ i = .int .i64 k ∧ (∃ A3 c3, v = .slice A3 (frTo l from_ co k).length c3 ∧ wr.ownsRow (w.heap.size + 1) 33 1 (.slice A3 (frTo l from_ co k).length c3) (frTo l from_ co k).length (us (frTo l from_ co k))) ∧ Below (w.heap.size + 1) w0 wr)
      (fun _ i _ => min from_.length l.length - (intOf i).toNat)
    case atStart => exact ⟨0, Nat.zero_le _, rfl, ⟨A1, c1, rfl, hown1⟩, hb1⟩
    case round =>
      obtain ⟨k, hk, rfl, ⟨A3, c3, rfl, hown⟩, hb⟩ := hrel
      clear hown1 hb1
      have hle2 := frTo_le l from_ co k
      by_cases hlt : k < min from_.length l.length
      · have hk1 : k < from_.length := by omega
        have hk2 : k < l.length := by omega
        have hk32 : k < 32 := by omega
        have hsr := hb.size
        have hszr : w.heap.size + 1 ≤ wr.heap.size := by have := hsz.out; omega
        have hcE := fun j v h => (hb.cell (p := ⟨w.heap.size, j, none⟩) (by simp)).trans (hE.out j v h)
        have e0 := hcE 0 _ rfl
        have e1 := hcE 1 _ rfl
        have e2 := hcE 2 _ rfl
        have e3 := hcE 3 _ rfl
        have e4 := hcE 4 _ rfl
        have e5 := hcE 5 _ rfl
        have e6 := hcE 6 _ rfl
        have hbr := hbw.trans (hb.mono (Nat.le_succ _))
        obtain ⟨b, off, rfl, hB, hc⟩ := (hr2.below hbr).at_is hk1
        have hfk := hc k hk1
        have hbb : b < wr.heap.size := by have := hbr.size; omega
        have hrE := (hr.below hbr).mono hbr.size
        have hrC := (hr'.below hbr).mono hbr.size
        have hbv := bitv_int k
        have hban := bits_minus (behindL l k from_[k] co) (bitv k)
        have hstep : Hid (frTo l from_ co (k + 1) = orL (frTo l from_ co k) (crossL l.length (bitv k) (minus (behindL l k from_[k] co) (bitv k)))) := by
          unfold Hid; rw [frTo_succ, frStep]; simp [hk1]
        clear hc hcE
        go_wp2_with fail
        go_region_held3 (fun w' => w'.cell? ⟨w.heap.size, 0, none⟩ = some (.slice A l.length c) ∧ w'.cell? ⟨w.heap.size, 1, none⟩ = some v1 ∧ w'.cell? ⟨w.heap.size, 2, none⟩ = some v2 ∧ w'.cell? ⟨w.heap.size, 3, none⟩ = some v3 ∧ w'.cell? ⟨w.heap.size, 4, none⟩ = some v4 ∧ w'.cell? ⟨w.heap.size, 5, none⟩ = some v5 ∧ w'.cell? ⟨w.heap.size, 6, none⟩ = some v6 ∧ w'.cell? ⟨b, off + k, none⟩ = some (.int .i64 from_[k])) (first | exact ⟨e0, e1, e2, e3, e4, e5, e6, hfk⟩)
          (first
            | (go_at_call 25; refine (behind_any A l c v1 v2 v3 v4 v5 v6 k from_[k] A' co c' _ (by exact hrE) hl hk2 (by exact hrC)).mono ?_; rintro e w3 ⟨rfl, hb3⟩; have e0 := cell_later_ hb3 hszr e0; have e1 := cell_later_ hb3 hszr e1; have e2 := cell_later_ hb3 hszr e2; have e3 := cell_later_ hb3 hszr e3; have e4 := cell_later_ hb3 hszr e4; have e5 := cell_later_ hb3 hszr e5; have e6 := cell_later_ hb3 hszr e6; have hfk := cell_later_ hb3 hbb hfk; have hs3 : wr.heap.size ≤ w3.heap.size := hb3.size; have hsz3 : w.heap.size < w3.heap.size := (by omega); have hbb3 : b < w3.heap.size := (by omega); have hown3 := ownsRow_below hown.drew hb3)
            | (go_at_call 24; refine (cross_any l.length (bitv k) (minus (behindL l k from_[k] co) (bitv k)) _).mono ?_; rintro e w4 ⟨A4, c4, rfl, hown4, hb4⟩; have e0 := cell_later_ hb4 hsz3 e0; have e1 := cell_later_ hb4 hsz3 e1; have e2 := cell_later_ hb4 hsz3 e2; have e3 := cell_later_ hb4 hsz3 e3; have e4 := cell_later_ hb4 hsz3 e4; have e5 := cell_later_ hb4 hsz3 e5; have e6 := cell_later_ hb4 hsz3 e6; have hfk := cell_later_ hb4 hbb3 hfk; have hs4 := hb4.size; have hsz4 : w.heap.size < w4.heap.size := (by omega); have hbb4 : b < w4.heap.size := (by omega); have hown3' := ownsRow_below hown3 hb4)
            | (go_at_call 7; refine (or_any A3 A4 (frTo l from_ co k) (crossL l.length (bitv k) (minus (behindL l k from_[k] co) (bitv k))) c3 c4 _ (by exact Rd.of_own hown3') (by exact Rd.of_own hown4) (by omega) (by have := crossL_le l.length (bitv k) (minus (behindL l k from_[k] co) (bitv k)); omega)).mono ?_; rintro e w5 ⟨A5, c5, rfl, hown5, hb5⟩; have e0 := cell_later_ hb5 hsz4 e0; have e1 := cell_later_ hb5 hsz4 e1; have e2 := cell_later_ hb5 hsz4 e2; have e3 := cell_later_ hb5 hsz4 e3; have e4 := cell_later_ hb5 hsz4 e4; have e5 := cell_later_ hb5 hsz4 e5; have e6 := cell_later_ hb5 hsz4 e6; have hfk := cell_later_ hb5 hbb4 hfk; have hbe := below_next (below_next hb3 hb4) hb5))
        go_wp2_with fail
        go_roundw
        case rel => exact ⟨k + 1, by omega, by go_num, ⟨A5, c5, by rw [hstep.out], by rw [hstep.out]; exact ownsRow_less hown5 (by omega)⟩, below_then hb.drew hbe (by exact hszr)⟩
        case measure => simp [intOf]; omega
      · obtain rfl : k = min from_.length l.length := by omega
        have hfull : Hid (frTo l from_ co (min from_.length l.length) = frL l from_ co) := rfl
        have hsr := hb.size
        have hbr := hbw.trans (hb.mono (Nat.le_succ _))
        rw [hfull.out] at hown
        first
          | have hge : from_.length ≤ min from_.length l.length := by omega
          | have hge : l.length ≤ min from_.length l.length := by omega
        go_wp2_with fail
        go_ret
        exact RetRel.of (A := A3) (n := (frL l from_ co).length) (c := c3) (ownsRow_less hown (by omega)) hbr

end Go.Proofs.Ytchhmfgeafnmkaa
