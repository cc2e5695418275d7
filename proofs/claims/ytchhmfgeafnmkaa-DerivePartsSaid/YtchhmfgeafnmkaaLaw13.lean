/-
  The law DeriveParts: its walk.
-/
import Derived.Test.YtchhmfgeafnmkaaDer2
import Derived.Test.YtchhmfgeafnmkaaParts13
namespace Go.Proofs.Ytchhmfgeafnmkaa
open Go.RowKit
set_option linter.unusedVariables false

def exEv : List Ev := [⟨0, 2, 0, 0, false, false, false⟩, ⟨0, 2, 0, 1, false, false, false⟩, ⟨0, 1, 0, 0, false, false, false⟩]
def exFrom : List Int := [-2, -2, 0]
def exCo : Rel := [2, 0, 0]
def exOut : Rel := [0, 0, 2]
theorem exFr : frL exEv exFrom exCo = exOut := by decide +kernel
theorem exSame : sameB exOut exOut = true := by decide +kernel
set_option maxHeartbeats 800000 in
theorem shown_any (w : World) : Calls Try.prog 4 #[] w fun e w' => e = .returned (.bool true) ∧ Below w.heap.size w w' := by
  go_enter Try.func4, Try.ntmps4
  go_wp2_with fail
  refine (fr_any (some ⟨w.heap.size, 0, none⟩) exEv 3 _ _ _ _ _ _ (some ⟨w.heap.size + 1 + 1, 0, none⟩) exFrom 3 (some ⟨w.heap.size + 1 + 1 + 1, 0, none⟩) exCo 3 _ ?_ (by decide) ?_ (by decide) ?_).mono ?_
  · exact (((Rd.new_ _ _ _).next _).next _).next _
  · exact (Rd.new_at _ _ _ _ (by simp)).next _
  · exact Rd.new_at _ _ _ _ (by simp)
  · rw [exFr]
    rintro e w1 ⟨A1, c1, rfl, hown1, hb1⟩
    have hb : Below w.heap.size w w1 := (below_alloc (below_alloc (below_alloc (below_alloc (Below.refl _ _) _ (Nat.le_refl _)) _ (Nat.le_refl _)) _ (Nat.le_refl _)) _ (Nat.le_refl _)).trans (hb1.mono (by simp; omega))
    have hr := Rd.of_own hown1
    clear hown1 hb1
    go_wp2_with fail
    refine (same_any A1 (some ⟨w1.heap.size, 0, none⟩) exOut exOut c1 3 _ (hr.next _) (Rd.new_ _ _ _) (by decide) (by decide)).mono ?_
    rw [exSame]
    rintro e w2 ⟨rfl, hb2⟩
    have hb' := below_next (below_alloc hb _ (Nat.le_refl _)) hb2
    go_wp2_with fail
    go_ret
    exact ⟨rfl, hb'⟩

/-- What the law's last statement reads, in each world that it comes to. -/
structure Keep13 (B : Nat) (A : Option Addr) (l : List Ev) (c : Nat) (A' : Option Addr) (r : Rel) (A2 : Option Addr) (b : Rel) (w : World) : Prop where
  cells : w.cell? ⟨B, 0, none⟩ = some (.slice A l.length c) ∧ w.cell? ⟨B, 1, none⟩ = some (.slice none 0 0) ∧ w.cell? ⟨B, 2, none⟩ = some (.slice none 0 0) ∧ w.cell? ⟨B, 3, none⟩ = some (.slice none 0 0) ∧
    w.cell? ⟨B, 4, none⟩ = some (.slice none 0 0) ∧ w.cell? ⟨B, 5, none⟩ = some (.slice none 0 0) ∧ w.cell? ⟨B, 6, none⟩ = some (.slice none 0 0)
  e : Rd w w.heap.size A (ecells l)
  r : Rd w w.heap.size A' (us r)
  b : Rd w w.heap.size A2 (us b)
  lt : B < w.heap.size
theorem Keep13.all {B : Nat} {A : Option Addr} {l : List Ev} {c : Nat} {A' : Option Addr} {r : Rel} {A2 : Option Addr} {b : Rel} {w w' : World} (h : Keep13 B A l c A' r A2 b w) (hb : Below w.heap.size w w') : Keep13 B A l c A' r A2 b w' :=
  ⟨⟨cell_later_ hb h.lt h.cells.1, cell_later_ hb h.lt h.cells.2.1, cell_later_ hb h.lt h.cells.2.2.1, cell_later_ hb h.lt h.cells.2.2.2.1, cell_later_ hb h.lt h.cells.2.2.2.2.1, cell_later_ hb h.lt h.cells.2.2.2.2.2.1, cell_later_ hb h.lt h.cells.2.2.2.2.2.2⟩,
    h.e.all hb, h.r.all hb, h.b.all hb, Nat.lt_of_lt_of_le h.lt hb.size⟩
set_option maxHeartbeats 3200000 in
theorem law_any (A : Option Addr) (l : List Ev) (c : Nat) (A' : Option Addr) (r : Rel) (c' : Nat) (w : World) (hr : Rd w w.heap.size A (ecells l)) (hr' : Rd w w.heap.size A' (us r)) :
    Calls Try.prog 3 #[.slice A l.length c, .slice A' r.length c'] w fun e w' => e = .returned (.bool true) ∧ Below w.heap.size w w' := by
  by_cases h24 : l.length ≤ 24
  · by_cases heq : r.length = l.length
    · have ht : ((r.length : Int) != (l.length : Int)) = false := by rw [heq]; simp
      have Heq := Lib.hid heq
      have hdiag := fun k hk => parts_diag l r (by omega) heq k hk
      have hapart := parts_apart l r (by omega) heq
      have hall := parts_all l r (by omega) heq
      have hturn := parts_turned l r (by omega) heq
      have Hdiag := Lib.hid hdiag
      have Hapart := Lib.hid hapart
      have Hall := Lib.hid hall
      have Hturn := Lib.hid hturn
      have hrl : r.length ≤ 24 := by omega
      clear heq hdiag hapart hall hturn
      go_enter Try.func3, Try.ntmps3
      go_wp2_with fail
      refine (shown_any _).mono ?_
      rintro e w1 ⟨rfl, hb1⟩
      have hE1 := hr.all hb1
      have hR1 := hr'.all hb1
      clear hr hr'
      go_wp2_with fail
      have hb2 := below_alloc hb1 (Obj.cells #[.slice A l.length c, .slice none 0 0, .slice none 0 0, .slice none 0 0, .slice none 0 0, .slice none 0 0, .slice none 0 0] 28) (Nat.le_refl _)
      have hE2 := hE1.next (Obj.cells #[.slice A l.length c, .slice none 0 0, .slice none 0 0, .slice none 0 0, .slice none 0 0, .slice none 0 0, .slice none 0 0] 28)
      have hR2 := hR1.next (Obj.cells #[.slice A l.length c, .slice none 0 0, .slice none 0 0, .slice none 0 0, .slice none 0 0, .slice none 0 0, .slice none 0 0] 28)
      have hc2 : ∀ j v, #[Value.slice A l.length c, .slice none 0 0, .slice none 0 0, .slice none 0 0, .slice none 0 0, .slice none 0 0, .slice none 0 0][j]? = some v → (w1.alloc (Obj.cells #[.slice A l.length c, .slice none 0 0, .slice none 0 0, .slice none 0 0, .slice none 0 0, .slice none 0 0, .slice none 0 0] 28)).cell? ⟨w1.heap.size, j, none⟩ = some v := fun j v h => cell_new _ _ _ j _ h
      have hs2 : (w1.alloc (Obj.cells #[.slice A l.length c, .slice none 0 0, .slice none 0 0, .slice none 0 0, .slice none 0 0, .slice none 0 0, .slice none 0 0] 28)).heap.size = w1.heap.size + 1 := by simp
      refine (within_any A l c _ _ _ _ _ _ A' r c' _ hE2 (by omega) hR2 (by omega)).mono ?_
      rintro e w3 ⟨A3, c3, rfl, hown3, hb3⟩
      generalize (w1.alloc (Obj.cells #[.slice A l.length c, .slice none 0 0, .slice none 0 0, .slice none 0 0, .slice none 0 0, .slice none 0 0, .slice none 0 0] 28)) = w2 at *
      have hE3 := hE2.all hb3
      have hR3 := hR2.all hb3
      have hc3 := fun j v h => cell_later_ hb3 (by rw [hs2]; exact Nat.lt_succ_self _) (hc2 j v h)
      have Hs3 : Hid (w1.heap.size < w3.heap.size) := by unfold Hid; have := hb3.size; omega
      have d0 := hc3 0 _ rfl
      have d1 := hc3 1 _ rfl
      have d2 := hc3 2 _ rfl
      have d3 := hc3 3 _ rfl
      have d4 := hc3 4 _ rfl
      have d5 := hc3 5 _ rfl
      have d6 := hc3 6 _ rfl
      have Hs2 := Lib.hid hs2
      have hbw3 := below_next hb2 hb3
      clear hs2 hc2 hE2 hR2 hb2 hb3
      go_wp2_with fail
      refine (outer_any A l c _ _ _ _ _ _ A' r c' _ hE3 (by omega) hR3 (by omega)).mono ?_
      rintro e w4 ⟨A4, c4, rfl, hown4, hb4⟩
      have hE4 := hE3.all hb4
      have hR4 := hR3.all hb4
      have hc4 := fun j v h => cell_later_ hb4 Hs3.out (hc3 j v h)
      have hown34 := ownsRow_below hown3 hb4
      have Hs4 : Hid (w1.heap.size < w4.heap.size) := by unfold Hid; have := hb4.size; have := Hs3.out; omega
      have hbw4 := below_next hbw3 hb4
      have hrA := Rd.of_own hown34
      have hrB := Rd.of_own hown4
      clear d0 d1 d2 d3 d4 d5 d6 hc3 hE3 hR3 hown3 hown34 hown4 hb4 hbw3
      have hwl := withinL_le l r
      have hol := outerL_le l r
      go_wp2_with fail
      refine (or_any A3 A4 _ _ c3 c4 _ hrA hrB (by omega) (by omega)).mono ?_
      rintro e w5 ⟨A5, c5, rfl, hown5, hb5⟩
      have hE5 := hE4.all hb5
      have hR5 := hR4.all hb5
      have hrA5 := hrA.all hb5
      have hrB5 := hrB.all hb5
      have hc5 := fun j v h => cell_later_ hb5 Hs4.out (hc4 j v h)
      have Hs5 : Hid (w1.heap.size < w5.heap.size) := by unfold Hid; have := hb5.size; have := Hs4.out; omega
      have hbw5 := below_next hbw4 hb5
      clear hE4 hR4 hrA hrB hc4 hb5 hbw4
      go_wp2_with fail
      go_loopw [9, 10] (fun v i wr => ∃ k : Nat, k ≤ l.length ∧ i = .int .i64 k ∧ (∃ A2 c2, v = .slice A2 (bothTo l r k).length c2 ∧ Rd wr wr.heap.size A2 (us (bothTo l r k))) ∧ Below w5.heap.size w5 wr)
        (fun _ i _ => l.length - (intOf i).toNat)
      case atStart => exact ⟨0, Nat.zero_le _, rfl, ⟨A5, c5, rfl, Rd.of_own hown5⟩, Below.refl _ _⟩
      case round =>
        obtain ⟨k, hk, rfl, ⟨A2, c2, rfl, hrb⟩, hb⟩ := hrel
        have hble := bothTo_le l r k
        by_cases hlt : k < l.length
        · have hk32 : k < 32 := by omega
          have hno := Lib.hid (Hdiag.out k hlt)
          have hRr := hR5.all hb
          have hbv := bitv_int k
          have hsucc := Lib.hid (bothTo_succ l r k)
          go_wp2_with fail
          refine (has_any A2 (bothTo l r k) c2 k k _ hrb).mono ?_
          rw [hno.out]
          rintro e w6 ⟨rfl, rfl⟩
          go_wp2_with fail
          refine (only_any A' r c' (bitv k) (bitv k) _ hRr (by omega)).mono ?_
          rintro e w7 ⟨A7, c7, rfl, hown7, hb7⟩
          have hrb7 := hrb.all hb7
          have hr7 := Rd.of_own hown7
          have hol7 := onlyL_le r (bitv k) (bitv k)
          have hbe := below_next hb hb7
          clear hown7 hb7
          go_wp2_with fail
          refine (or_any A2 A7 _ _ c2 c7 _ hrb7 hr7 (by omega) (by omega)).mono ?_
          rintro e w8 ⟨A8, c8, rfl, hown8, hb8⟩
          have hbe8 := below_next hbe hb8
          clear hb8 hbe
          go_wp2_with fail
          go_roundw
          case rel => exact ⟨k + 1, by omega, by go_num, ⟨A8, c8, by rw [hsucc.out], by rw [hsucc.out]; exact Rd.of_own hown8⟩, hbe8⟩
          case measure => simp [intOf]; omega
        · obtain rfl : k = l.length := by omega
          have hcr := fun j v h => cell_later_ hb Hs5.out (hc5 j v h)
          have HK : Keep13 w1.heap.size A l c A' r A2 (bothTo l r l.length) wr.drew :=
            ⟨⟨hcr 0 _ rfl, hcr 1 _ rfl, hcr 2 _ rfl, hcr 3 _ rfl, hcr 4 _ rfl, hcr 5 _ rfl, hcr 6 _ rfl⟩, hE5.all hb.drew, hR5.all hb.drew, hrb, Nat.lt_of_lt_of_le Hs5.out hb.size⟩
          have hrAr : Rd wr.drew wr.drew.heap.size A3 (us (withinL l r)) := hrA5.all hb.drew
          have hrBr : Rd wr.drew wr.drew.heap.size A4 (us (outerL l r)) := hrB5.all hb.drew
          have hB : Below w.heap.size w wr.drew := (below_next hbw5 hb).drew
          have hil := invL_le (outerL l r)
          have hil' := invL_le r
          have hoi := outerL_le l (invL r)
          have hal := andL_le (withinL l r) (outerL l r)
          clear hcr hE5 hR5 hrA5 hrB5 hc5 hbw5 hb hrb hown5 Hs5 Hs4 Hs3 Hs2
          go_wp2_with fail
          go_region_held3 (fun w' => w'.cell? ⟨w1.heap.size, 0, none⟩ = some (.slice A l.length c) ∧ w'.cell? ⟨w1.heap.size, 1, none⟩ = some (.slice none 0 0) ∧ w'.cell? ⟨w1.heap.size, 2, none⟩ = some (.slice none 0 0) ∧ w'.cell? ⟨w1.heap.size, 3, none⟩ = some (.slice none 0 0) ∧ w'.cell? ⟨w1.heap.size, 4, none⟩ = some (.slice none 0 0) ∧ w'.cell? ⟨w1.heap.size, 5, none⟩ = some (.slice none 0 0) ∧ w'.cell? ⟨w1.heap.size, 6, none⟩ = some (.slice none 0 0))
            (first | exact HK.cells)
            (first
              | (go_at_call 11; refine (and_any A3 A4 (withinL l r) (outerL l r) c3 c4 _ (by exact hrAr) (by exact hrBr) (by omega) (by omega)).mono ?_; rintro e wa ⟨Aa, ca, rfl, howna, hba⟩; have HK := HK.all hba; have hB := below_next hB hba; have hra := Rd.of_own howna; clear howna hba)
              | (go_at_call 10; refine (pairs_any Aa (andL (withinL l r) (outerL l r)) ca _ (by exact hra) (by omega)).mono ?_; rw [Hapart.out]; rintro e wp ⟨Ap, cp, rfl, hownp, hbp⟩; have HK := HK.all hbp; have hB := below_next hB hbp; clear hownp hbp)
              | (go_at_call 12; (with_reducible refine (same_any A2 A' (bothTo l r l.length) r c2 c' _ (by exact HK.b) (by exact HK.r) (by omega) (by omega)).mono ?_); rw [Hall.out]; rintro e wx ⟨rfl, hbx⟩; have HK := HK.all hbx; have hB := below_next hB hbx; clear hbx)
              | (go_at_call 6; (with_reducible refine (outer_any A l c _ _ _ _ _ _ A' r c' _ (by exact HK.e) (by omega) (by exact HK.r) (by omega)).mono ?_); rintro e wo ⟨Ao, co, rfl, howno, hbo⟩; have HK := HK.all hbo; have hB := below_next hB hbo; have hro := Rd.of_own howno; clear howno hbo)
              | (go_at_call 13; (with_reducible refine (inv_any Ao (outerL l r) co _ (by exact hro) (by omega)).mono ?_); rintro e wi ⟨Ai, ci, rfl, howni, hbi⟩; have HK := HK.all hbi; have hB := below_next hB hbi; have hri := Rd.of_own howni; clear howni hbi)
              | (go_at_call 13; (with_reducible refine (inv_any A' r c' _ (by exact HK.r) (by omega)).mono ?_); rintro e wj ⟨Aj, cj, rfl, hownj, hbj⟩; have HK := HK.all hbj; have hB := below_next hB hbj; have hri := hri.all hbj; have hrj := Rd.of_own hownj; clear hownj hbj)
              | (go_at_call 6; (with_reducible refine (outer_any A l c _ _ _ _ _ _ Aj (invL r) cj _ (by exact HK.e) (by omega) (by exact hrj) (by omega)).mono ?_); rintro e wk ⟨Ak, ck, rfl, hownk, hbk⟩; have HK := HK.all hbk; have hB := below_next hB hbk; have hri := hri.all hbk; have hrk := Rd.of_own hownk; clear hownk hbk)
              | (go_at_call 12; (with_reducible refine (same_any Ai Ak (invL (outerL l r)) (outerL l (invL r)) ci ck _ (by exact hri) (by exact hrk) (by omega) (by omega)).mono ?_); rw [Hturn.out]; rintro e wz ⟨rfl, hbz⟩; have HK := HK.all hbz; have hB := below_next hB hbz; clear hbz))
          all_goals go_wp2_with fail
          all_goals go_ret
          all_goals exact ⟨rfl, hB⟩
    · have ht : ((r.length : Int) != (l.length : Int)) = true := by rw [bne_iff_ne]; omega
      clear heq
      go_enter Try.func3, Try.ntmps3
      go_wp2_with fail
      refine (shown_any _).mono ?_
      rintro e w1 ⟨rfl, hb1⟩
      go_wp2_with fail
      go_ret
      exact ⟨rfl, hb1⟩
  · have h25 : 24 < l.length := by omega
    clear h24
    go_enter Try.func3, Try.ntmps3
    go_wp2_with fail
    refine (shown_any _).mono ?_
    rintro e w1 ⟨rfl, hb1⟩
    go_wp2_with fail
    go_ret
    exact ⟨rfl, hb1⟩

end Go.Proofs.Ytchhmfgeafnmkaa
