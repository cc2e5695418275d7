/-
  The functions of package rel, further: Put, Only, Pairs, what is made of two relations, Same, Inv, Cross.
-/
import Derived.Test.YtchhmfgeafnmkaaRel
namespace Go.Proofs.Ytchhmfgeafnmkaa
open Go.RowKit

theorem putL_in (r : Rel) (i k : Nat) (h1 : i < (clean r).length) (h2 : k < (clean r).length) : putL r i k = (clean r).set i ((clean r)[i] ||| bitv k) := by
  unfold putL
  rw [if_pos (by omega)]
  simp [h1]
theorem putL_out (r : Rel) (i k : Int) (h : inB (clean r).length i k = false) : putL r i k = clean r := by
  unfold putL
  rw [if_neg (by simpa [inB] using h)]

set_option maxHeartbeats 400000 in
theorem put_any (A : Option Addr) (r : Rel) (c : Nat) (i k : Int) (w : World) (hr : Rd w w.heap.size A (us r)) (hl : r.length ≤ 1000000) :
    Calls Try.prog 17 #[.slice A r.length c, .int .i64 i, .int .i64 k] w (RetRel w.heap.size w (putL r i k)) := by
  have hle := clean_le r
  by_cases hin : 0 ≤ i ∧ i < (clean r).length ∧ 0 ≤ k ∧ k < (clean r).length
  · obtain ⟨h1, h2, h3, h4⟩ := hin
    obtain ⟨i, rfl⟩ := Int.eq_ofNat_of_zero_le h1
    obtain ⟨k, rfl⟩ := Int.eq_ofNat_of_zero_le h3
    have hi : i < (clean r).length := by omega
    have hk : k < (clean r).length := by omega
    have hk32 : k < 32 := by omega
    have H := Lib.hid (putL_in r i k hi hk)
    have hb : inB (clean r).length i k = true := by unfold inB; simp; omega
    go_enter Try.func17, Try.ntmps17
    go_wp2_with fail
    refine (clean_any A r c _ hr hl).mono ?_
    rintro e w1 ⟨A1, c1, rfl, hown, hbel⟩
    clear hr
    obtain ⟨g, cap, hv, _, hlt⟩ := hown.form (by omega)
    have hA : A1 = some ⟨g, 0, none⟩ := by injection hv
    subst hA
    clear hv
    have hcg := hown.cellAt i (by omega)
    rw [us_get _ i hi] at hcg
    have hfg := hown.frozenAt i
    have hgB : w.heap.size ≤ g := by have := hown.lt g rfl; exact this.1
    go_wp2_with (go_at_call 20; refine (in_any _ _ _ _ _ _).mono ?_; rintro e w2 ⟨rfl, rfl⟩)
    go_ret
    have hst := (hown.stored i (.int .u32 (((clean r)[i] ||| bitv k).toNat : Int))).1
    rw [us_set, ← bits_or, ← bitv_int] at hst
    rw [H.out]
    exact RetRel.of (A := some ⟨g, 0, none⟩) (n := (clean r).length) (c := c1) hst (hbel.setCell (p := ⟨g, i, none⟩) hgB _)
  · have hb : inB (clean r).length i k = false := by unfold inB; simpa using hin
    have H := Lib.hid (putL_out r i k hb)
    clear hin
    go_enter Try.func17, Try.ntmps17
    go_wp2_with fail
    refine (clean_any A r c _ hr hl).mono ?_
    rintro e w1 ⟨A1, c1, rfl, hown, hbel⟩
    clear hr
    go_wp2_with (go_at_call 20; refine (in_any _ _ _ _ _ _).mono ?_; rintro e w2 ⟨rfl, rfl⟩)
    go_ret
    rw [H.out]
    exact ⟨A1, c1, rfl, hown, hbel⟩

set_option maxHeartbeats 800000 in
theorem only_any (A : Option Addr) (r : Rel) (c : Nat) (f t : U32) (w : World) (hr : Rd w w.heap.size A (us r)) (hl : r.length ≤ 1000000) :
    Calls Try.prog 9 #[.slice A r.length c, .int .u32 (f.toNat : Int), .int .u32 (t.toNat : Int)] w (RetRel w.heap.size w (onlyL r f t)) := by
  have hle := clean_le r
  go_enter Try.func9, Try.ntmps9
  go_wp2_with fail
  refine (clean_any A r c _ hr hl).mono ?_
  rintro e w1 ⟨A1, c1, rfl, hown, hbel⟩
  clear hr
  go_wp2_with fail
  go_loopw [13] (fun i wr => ∃ k : Nat, k ≤ (clean r).length ∧ i = .int .i64 k ∧ wr.ownsRow w.heap.size 33 1 (.slice A1 (clean r).length c1) (clean r).length (us (roundTo (onlyRow f t) (clean r) k)) ∧ Below w.heap.size w wr)
    (fun i _ => (clean r).length - (intOf i).toNat)
  case atStart => exact ⟨0, Nat.zero_le _, rfl, by rw [roundTo_zero]; exact hown, hbel⟩
  case round =>
    obtain ⟨k, hk, rfl, hown, hb⟩ := hrel
    clear hbel
    by_cases hlt : k < (clean r).length
    · obtain ⟨g, cap, hv, _, hgs⟩ := hown.form (by omega)
      have hA : A1 = some ⟨g, 0, none⟩ := by injection hv
      subst hA
      clear hv
      have hgB : w.heap.size ≤ g := (hown.lt g rfl).1
      have hcg := hown.cellAt k (by omega)
      rw [us_get _ k (by rw [roundTo_length]; exact hlt), roundTo_here _ _ _ hlt] at hcg
      have hfg := hown.frozenAt k
      have hstep := Lib.hid (roundTo_succ (onlyRow f t) (clean r) k hlt)
      cases hbit : f.getLsbD k with
      | true =>
        have hrow : Hid (onlyRow f t k (clean r)[k] = (clean r)[k] &&& t) := by unfold Hid onlyRow; rw [hbit]; rfl
        have htest : (bits BinOp.and IntKind.u32 ((f.toNat : Int) / 2 ^ k) 1 == 0) = false := by rw [bit_clear, hbit]; rfl
        clear hbit
        go_wp2_with fail
        go_roundw
        case rel =>
          refine ⟨k + 1, by omega, by go_num, ?_, hb.setCell (p := ⟨g, k, none⟩) hgB _⟩
          have h := (hown.stored k (.int .u32 (((clean r)[k] &&& t).toNat : Int))).1
          rw [us_set, ← hrow.out, hstep.out, hrow.out, ← bits_and] at h
          exact h
        case measure => simp [intOf]; omega
      | false =>
        have hrow : Hid (onlyRow f t k (clean r)[k] = 0 &&& t) := by unfold Hid onlyRow; rw [hbit]; rfl
        have htest : (bits BinOp.and IntKind.u32 ((f.toNat : Int) / 2 ^ k) 1 == 0) = true := by rw [bit_clear, hbit]; rfl
        clear hbit
        go_wp2_with fail
        go_roundw
        case rel =>
          refine ⟨k + 1, by omega, by go_num, ?_, (hb.setCell (p := ⟨g, k, none⟩) hgB _).setCell (p := ⟨g, k, none⟩) hgB _⟩
          have h := ((hown.stored k (.int .u32 0)).1.stored k (.int .u32 (((0 : U32) &&& t).toNat : Int))).1
          rw [List.set_set, us_set, ← hrow.out, hstep.out, hrow.out, ← bits_and] at h
          exact h
        case measure => simp [intOf]; omega
    · obtain rfl : k = (clean r).length := by omega
      rw [roundTo_full] at hown
      go_wp2
      go_ret
      exact RetRel.of (A := A1) (n := (clean r).length) (c := c1) hown hb

/-- The relation of three: of a pair of things in turn. -/
theorem info_pair : (Try.prog.info? 46).map (fun i => (i.zero, i.size, i.bytes)) = some (some (.agg #[.int .i64 0, .int .i64 0]), 2, 16) := by kernel_rfl
def RetPairs (B : Nat) (w : World) (l : List (Int × Int)) (e : Ending) (w' : World) : Prop :=
  ∃ A c, e = .returned (.slice A l.length c) ∧ w'.ownsRow B 46 2 (.slice A l.length c) l.length (pcells l) ∧ Below B w w'
theorem RetPairs.of {B : Nat} {w w' : World} {A : Option Addr} {n c : Nat} {r : List (Int × Int)} (hown : w'.ownsRow B 46 2 (.slice A n c) n (pcells r)) (hb : Below B w w') : RetPairs B w r (.returned (.slice A n c)) w' := by
  have hn : n = r.length := by have := hown.1; rw [pcells_length] at this; omega
  subst hn
  exact ⟨A, c, rfl, hown, hb⟩
theorem pcells_one (l : List (Int × Int)) : ∀ u ∈ pcells l, u.oneCell' = true := by
  intro u hu
  simp only [pcells, List.mem_flatMap, List.mem_cons, List.not_mem_nil, or_false] at hu
  obtain ⟨p, _, h | h⟩ := hu <;> subst h <;> rfl
/-- An owned row is nil or lies at the head of a block: its value written out. -/
theorem own_slice {w : World} {base : Nat} {e : TypeId} {size : Nat} {v : Value} {n : Nat} {xs : List Value} (h : w.ownsRow base e size v n xs) : ∃ A c, v = .slice A n c := by
  rcases h.2 with ⟨rfl, rfl⟩ | ⟨g, cap, cur, rfl, _⟩
  · exact ⟨none, 0, rfl⟩
  · exact ⟨_, _, rfl⟩

set_option maxHeartbeats 1600000 in
theorem pairs_any (A : Option Addr) (r : Rel) (c : Nat) (w : World) (hr : Rd w w.heap.size A (us r)) (hl : r.length ≤ 1000000) :
    Calls Try.prog 10 #[.slice A r.length c] w (RetPairs w.heap.size w (pairsL r)) := by
  obtain ⟨i0, hi, hz0, hz1, hz2⟩ := info_parts info_pair
  have hle := clean_le r
  have hle' := clean_le' r
  go_enter Try.func10, Try.ntmps10
  go_wp2_with fail
  refine (clean_any A r c _ hr hl).mono ?_
  rintro e w1 ⟨A1, c1, rfl, hown, hbel⟩
  clear hr
  have hrd := Rd.of_own hown
  go_wp2_with fail
  go_loopw [3, 10] (fun v i wr => ∃ k : Nat, k ≤ (clean r).length ∧ i = .int .i64 k ∧ wr.ownsRow w1.heap.size 46 2 v (pairsTo r k).length (pcells (pairsTo r k)) ∧ Below w1.heap.size w1 wr)
    (fun _ i _ => (clean r).length - (intOf i).toNat)
  case atStart => exact ⟨0, Nat.zero_le _, rfl, World.ownsRow_nil _ _ _ _, Below.refl _ _⟩
  case round =>
    obtain ⟨k, hk, rfl, hownp, hb⟩ := hrel
    by_cases hlt : k < (clean r).length
    · have h32 : r.length ≤ 32 := by
        by_cases h : r.length ≤ 32
        · exact h
        · have := clean_long r (by omega); rw [this] at hlt; simp at hlt
      obtain ⟨b, off, rfl, hB, hc⟩ := (hrd.below hb).at_us hlt
      have hck := hc k hlt
      clear hc
      have hpl := pairsTo_le r h32 k
      go_wp2_with fail
      go_loopw [3, 17] (fun v i wq => ∃ j : Nat, j ≤ r.length ∧ i = .int .i64 j ∧ wq.ownsRow w1.heap.size 46 2 v (pairsTo r k ++ pairRow (clean r)[k] k j).length (pcells (pairsTo r k ++ pairRow (clean r)[k] k j)) ∧ Below w1.heap.size w1 wq)
        (fun _ i _ => r.length - (intOf i).toNat)
      case atStart => exact ⟨0, Nat.zero_le _, rfl, by rw [pairRow_zero, List.append_nil]; exact hownp, hb⟩
      case round =>
        obtain ⟨j, hj, rfl, hownq, hbq⟩ := hrel
        clear hownp hb
        by_cases hjt : j < r.length
        · have hrl := pairRow_le (clean r)[k] k j
          have hsucc := Lib.hid (pairRow_succ (clean r)[k] k j)
          cases hbit : ((clean r)[k]).getLsbD j with
          | true =>
            have htest : (bits BinOp.and IntKind.u32 (((clean r)[k].toNat : Int) / 2 ^ j) 1 == 1) = true := by rw [bit_set, hbit]
            have hs' : Hid (pairRow (clean r)[k] k (j + 1) = pairRow (clean r)[k] k j ++ [((k : Int), (j : Int))]) := by unfold Hid; rw [hsucc.out, hbit]; rfl
            clear hbit hsucc
            have hlen : (pairsTo r k ++ pairRow (clean r)[k] k j).length ≤ 2000 := by rw [List.length_append]; omega
            go_wp2_with (at_builtin; refine wpList_append_own _ rfl _ _ 35 rfl w1.heap.size 46 i0 _ 2 16 Try.underlying35 hi hz0 hz1 hz2 rfl (by decide) _ _ _ rfl (hownq.alloc _) ⟨_, 0, none⟩ 1 1 [.int .i64 k, .int .i64 j] rfl rfl (cell_two_new _ _ _ _) (by intro u hu; simp at hu; rcases hu with rfl | rfl <;> rfl) (by unfold maxLen; omega) (by omega) (by have := hbq.size; simp; omega) ?_; intro v' w3 hown3 hgrow _)
            go_roundw
            case rel =>
              refine ⟨j + 1, by omega, by go_num, ?_, ?_⟩
              · rw [hs'.out, ← List.append_assoc, pcells_append, List.length_append]
                exact hown3
              · exact (hbq.alloc hbq.size _).grown hgrow (by have := hbq.size; simp; omega) (fun q hq => (hownq.lt q hq).1)
            case measure => simp [intOf]; omega
          | false =>
            have htest : (bits BinOp.and IntKind.u32 (((clean r)[k].toNat : Int) / 2 ^ j) 1 == 1) = false := by rw [bit_set, hbit]
            have hs' : Hid (pairRow (clean r)[k] k (j + 1) = pairRow (clean r)[k] k j) := by unfold Hid; rw [hsucc.out, hbit]; simp
            clear hbit hsucc
            go_wp2_with fail
            go_roundw
            case rel => exact ⟨j + 1, by omega, by go_num, by rw [hs'.out]; exact hownq, hbq⟩
            case measure => simp [intOf]; omega
        · obtain rfl : j = r.length := by omega
          have hsucc := Lib.hid (pairsTo_succ r k)
          have hgd : Hid ((clean r).getD k 0 = (clean r)[k]) := by unfold Hid; simp [hlt]
          go_wp2_with fail
          go_roundw
          case rel => exact ⟨k + 1, by omega, by go_num, by rw [hsucc.out, hgd.out]; exact hownq, hbq⟩
          case measure => simp [intOf]; omega
    · obtain rfl : k = (clean r).length := by omega
      obtain ⟨A2, c2, rfl⟩ := own_slice hownp
      go_wp2
      go_ret
      exact RetPairs.of (A := A2) (n := (pairsTo r (clean r).length).length) (c := c2) (ownsRow_less hownp hbel.size) (below_next hbel hb)

end Go.Proofs.Ytchhmfgeafnmkaa
