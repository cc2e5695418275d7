/-
  The functions of package rel: what each call makes, by walks. Each answers for relations of at most a million rows that lie readable in memory.
-/
import Derived.Test.YtchhmfgeafnmkaaProg
import Derived.Test.YtchhmfgeafnmkaaRelD
namespace Go.Proofs.Ytchhmfgeafnmkaa
open Go.RowKit

theorem info_u32 : (Try.prog.info? 33).map (fun i => (i.zero, i.size, i.bytes)) = some (some (.int .u32 0), 1, 4) := by kernel_rfl

/-- A relation in memory of the call's own. -/
def RetRel (B : Nat) (w : World) (r : Rel) (e : Ending) (w' : World) : Prop :=
  ∃ A c, e = .returned (.slice A r.length c) ∧ w'.ownsRow B 33 1 (.slice A r.length c) r.length (us r) ∧ Below B w w'

theorem RetRel.of {B : Nat} {w w' : World} {A : Option Addr} {n c : Nat} {r : Rel} (hown : w'.ownsRow B 33 1 (.slice A n c) n (us r)) (hb : Below B w w') : RetRel B w r (.returned (.slice A n c)) w' := by
  have hn : n = r.length := by have := hown.1; simp at this; omega
  subst hn
  exact ⟨A, c, rfl, hown, hb⟩
theorem RetRel.empty (w : World) : RetRel w.heap.size w [] (.returned (.slice (some ⟨w.heap.size, 0, none⟩) 0 0)) (w.alloc (.cells #[] 33)) :=
  ⟨_, _, rfl, World.ownsRow_lit w #[] 0 (Nat.le_refl _) (by simp [maxLen]) rfl, (Below.refl _ _).alloc (Nat.le_refl _) _⟩

theorem us_zeros (n : Nat) : us (List.replicate n 0) = (madeCells (Value.int .u32 0).cells (n * 1)).toList := by
  simp [toList_madeCells_one, us, Value.cells]

set_option maxHeartbeats 400000 in
theorem all_any (n : Nat) (hn : n ≤ 32) (w : World) :
    Calls Try.prog 28 #[.int .i64 n] w fun e w' => e = .returned (.int .u32 ((all32 n).toNat : Int)) ∧ w = w' := by
  have H := Lib.hid (pow_wrap n hn)
  have H2 := Lib.hid (all32_toNat n hn)
  go_enter Try.func28, Try.ntmps28
  go_wp2
  go_ret
  exact ⟨by rw [H2.out]; simp [← H.out], rfl⟩

set_option maxHeartbeats 400000 in
theorem clean_any (A : Option Addr) (r : Rel) (c : Nat) (w : World) (hr : Rd w w.heap.size A (us r)) (hl : r.length ≤ 1000000) :
    Calls Try.prog 21 #[.slice A r.length c] w (RetRel w.heap.size w (clean r)) := by
  obtain ⟨i0, hi, hz0, hz1, hz2⟩ := info_parts info_u32
  by_cases h32 : r.length ≤ 32
  · have H1 := Lib.hid (cleanTo_zero r)
    have H2 := Lib.hid (cleanTo_full r h32)
    have H3 := Lib.hid (clean_length r h32)
    go_enter Try.func21, Try.ntmps21
    go_wp2_with (first | (at_make; refine wpList_make_full _ rfl _ _ 25 rfl w.heap.size 33 i0 (.int .u32 0) 1 Try.underlying25 hi hz0 hz1 _ _ _ _ r.length rfl rfl rfl rfl (by rw [hz2]; omega) (by unfold maxLen; omega) (Nat.le_refl _) ?_; intro w1 hown hgrow))
    go_loopw [14] (fun i wr => ∃ k : Nat, k ≤ r.length ∧ i = .int .i64 k ∧ wr.ownsRow w.heap.size 33 1 (.slice (some ⟨w.heap.size, 0, none⟩) r.length r.length) r.length (us (cleanTo r k)) ∧ Below w.heap.size w wr)
      (fun i _ => r.length - (intOf i).toNat)
    case atStart =>
      refine ⟨0, Nat.zero_le _, rfl, ?_, (Below.refl _ _).grown hgrow (Nat.le_refl _) (by simp)⟩
      rw [H1.out, us_zeros]; exact hown
    case round =>
      obtain ⟨k, hk, rfl, hown, hb⟩ := hrel
      clear hgrow
      by_cases hlt : k < r.length
      · obtain ⟨b, off, rfl, hB, hc⟩ := (hr.below hb).at_us hlt
        have hck := hc k hlt
        clear hc hr
        go_wp2_with fail
        refine region_tail 11 (by kernel_rfl) (by kernel_rfl) ?_
        simp only [List.take_succ_cons, List.take_zero, List.drop_succ_cons, List.drop_zero]
        repeat (first | still_step | still_call (same_flip (all_any _ (by omega) _)))
        refine wpStill_nil ?_
        have hcg := hown.cellAt k (by omega)
        rw [us_get _ k (by rw [cleanTo_length r k hk]; exact hlt)] at hcg
        have hfg := hown.frozenAt k
        go_wp2
        go_roundw
        case rel =>
          refine ⟨k + 1, by omega, by go_num, ?_, ?_⟩
          · have h := (hown.drew.stored k (.int .u32 ((r[k] &&& all32 r.length).toNat : Int))).1
            rw [us_set, show (cleanTo r k).set k (r[k] &&& all32 r.length) = cleanTo r (k + 1) from ?_, ← bits_and] at h
            · exact h
            · apply List.ext_getElem
              · simp [cleanTo]; omega
              · intro j h1 h2
                simp only [cleanTo, List.getElem_set, List.getElem_append, List.length_map, List.length_take, List.getElem_map, List.getElem_take, List.getElem_replicate]
                split
                · subst_vars; simp
                  intro; omega
                · split <;> split <;> first | rfl | omega
          · exact hb.drew.setCell (p := ⟨w.heap.size, k, none⟩) (Nat.le_refl _) _
        case measure => simp [intOf]; omega
      · obtain rfl : k = r.length := by omega
        go_wp2
        go_ret
        exact ⟨_, _, by rw [H3.out]; rfl, by rw [H3.out, ← H2.out]; exact hown, hb⟩
  · have h32' : 32 < r.length := by omega
    have H5 := Lib.hid (clean_long r h32')
    clear h32 hr
    go_enter Try.func21, Try.ntmps21
    go_wp2
    go_ret
    rw [H5.out]
    exact RetRel.empty w

/-- Are there such things? -/
def inB (n : Nat) (i k : Int) : Bool := decide (0 ≤ i ∧ i < n ∧ 0 ≤ k ∧ k < n)
set_option maxHeartbeats 400000 in
theorem in_any (A : Option Addr) (n c : Nat) (i k : Int) (w : World) :
    Calls Try.prog 20 #[.slice A n c, .int .i64 i, .int .i64 k] w fun e w' => e = .returned (.bool (inB n i k)) ∧ w = w' := by
  by_cases h1 : 0 ≤ i
  · by_cases h2 : i < n
    · by_cases h3 : 0 ≤ k
      · by_cases h4 : k < n
        · have H : Hid (inB n i k = true) := by unfold Hid inB; simp; omega
          go_enter Try.func20, Try.ntmps20
          go_wp2
          go_ret
          exact ⟨by rw [H.out]; simp, rfl⟩
        · have H : Hid (inB n i k = false) := by unfold Hid inB; simp; omega
          go_enter Try.func20, Try.ntmps20
          go_wp2
          go_ret
          exact ⟨by rw [H.out]; simp, rfl⟩
      · have H : Hid (inB n i k = false) := by unfold Hid inB; simp; omega
        go_enter Try.func20, Try.ntmps20
        go_wp2
        go_ret
        exact ⟨by rw [H.out]; simp, rfl⟩
    · have H : Hid (inB n i k = false) := by unfold Hid inB; simp; omega
      go_enter Try.func20, Try.ntmps20
      go_wp2
      go_ret
      exact ⟨by rw [H.out]; simp, rfl⟩
  · have H : Hid (inB n i k = false) := by unfold Hid inB; simp; omega
    go_enter Try.func20, Try.ntmps20
    go_wp2
    go_ret
    exact ⟨by rw [H.out]; simp, rfl⟩

set_option maxHeartbeats 400000 in
theorem has_any (A : Option Addr) (r : Rel) (c : Nat) (i k : Int) (w : World) (hr : Rd w w.heap.size A (us r)) :
    Calls Try.prog 8 #[.slice A r.length c, .int .i64 i, .int .i64 k] w fun e w' => e = .returned (.bool (hasI r i k)) ∧ w = w' := by
  by_cases h32 : r.length ≤ 32
  · by_cases hin : 0 ≤ i ∧ i < r.length ∧ 0 ≤ k ∧ k < r.length
    · obtain ⟨h1, h2, h3, h4⟩ := hin
      obtain ⟨i, rfl⟩ := Int.eq_ofNat_of_zero_le h1
      obtain ⟨k, rfl⟩ := Int.eq_ofNat_of_zero_le h3
      have hi : i < r.length := by omega
      have hk : k < r.length := by omega
      obtain ⟨b, off, rfl, hB, hc⟩ := hr.at_us hi
      have hci := hc i hi
      have H : Hid (hasI r i k = (r[i]).getLsbD k) := by
        unfold Hid hasI; simp [h32, hi, hk]
      have hb : inB r.length i k = true := by unfold inB; simp; omega
      clear hc hr
      go_enter Try.func8, Try.ntmps8
      go_wp2_with (go_at_call 20; refine (in_any _ _ _ _ _ _).mono ?_; rintro e w1 ⟨rfl, rfl⟩)
      go_ret
      exact ⟨by rw [H.out, ← bit_set]; simp, rfl⟩
    · have hb : inB r.length i k = false := by unfold inB; simpa using hin
      have H : Hid (hasI r i k = false) := by unfold Hid hasI; rw [show decide (0 ≤ i ∧ i < (r.length : Int) ∧ 0 ≤ k ∧ k < (r.length : Int)) = false from decide_eq_false hin]; simp
      clear hin hr
      go_enter Try.func8, Try.ntmps8
      go_wp2_with (go_at_call 20; refine (in_any _ _ _ _ _ _).mono ?_; rintro e w1 ⟨rfl, rfl⟩)
      go_ret
      exact ⟨by rw [H.out]; simp, rfl⟩
  · have H : Hid (hasI r i k = false) := by unfold Hid hasI; simp [h32]
    have h32' : 32 < r.length := by omega
    clear hr h32
    go_enter Try.func8, Try.ntmps8
    go_wp2
    go_ret
    exact ⟨by rw [H.out]; simp, rfl⟩

set_option maxHeartbeats 400000 in
theorem new_any (n : Int) (w : World) : Calls Try.prog 16 #[.int .i64 n] w (RetRel w.heap.size w (newL n)) := by
  obtain ⟨i0, hi, hz0, hz1, hz2⟩ := info_parts info_u32
  by_cases h : 0 ≤ n ∧ n ≤ 32
  · obtain ⟨h1, h2⟩ := h
    obtain ⟨n, rfl⟩ := Int.eq_ofNat_of_zero_le h1
    have h2' : n ≤ 32 := by omega
    have H : Hid (newL n = List.replicate n 0) := by unfold Hid newL; rw [if_pos ⟨h1, h2⟩]; rfl
    go_enter Try.func16, Try.ntmps16
    go_wp2_with (first | (at_make; refine wpList_make_full _ rfl _ _ 25 rfl w.heap.size 33 i0 (.int .u32 0) 1 Try.underlying25 hi hz0 hz1 _ _ _ _ n rfl rfl rfl rfl (by rw [hz2]; omega) (by unfold maxLen; omega) (Nat.le_refl _) ?_; intro w1 hown hgrow))
    go_ret
    rw [H.out]
    exact ⟨_, n, by simp; rfl, by rw [us_zeros]; simpa using hown, (Below.refl _ _).grown hgrow (Nat.le_refl _) (by simp)⟩
  · have H : Hid (newL n = []) := by unfold Hid newL; rw [if_neg h]
    by_cases h1 : n < 0
    · go_enter Try.func16, Try.ntmps16
      go_wp2
      go_ret
      rw [H.out]
      exact RetRel.empty w
    · have h2 : 32 < n := by omega
      have h3 : 0 ≤ n := by omega
      clear h h1
      go_enter Try.func16, Try.ntmps16
      go_wp2
      go_ret
      rw [H.out]
      exact RetRel.empty w

end Go.Proofs.Ytchhmfgeafnmkaa
