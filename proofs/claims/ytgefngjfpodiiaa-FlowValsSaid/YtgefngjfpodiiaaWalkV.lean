/-
  The statement FlowVals answers true of whatever lists, by a walk.
-/
import Derived.Test.YtgefngjfpodiiaaPlain8
import Derived.Test.YtgefngjfpodiiaaShown8
namespace Go.Proofs.Ytgefngjfpodiiaa
open Go.RowKit
set_option linter.unusedVariables false

theorem below_drewN {B : Nat} {a b : World} (h : Below B a b) (n : Nat) : Below B a (b.drewN n) := ⟨h.os, h.tape, h.output, h.size, h.block⟩

set_option maxHeartbeats 3200000 in
theorem vals_big (A : Option Addr) (th : List In) (tc : Nat) (VA : Option Addr) (vals : List Int) (vc : Nat) (LA : Option Addr) (lucks : List Bool) (lc : Nat) (w : World) (h : 8 < th.length ∨ 40 < vals.length ∨ 40 < lucks.length) :
    Calls Try.prog 6 #[.slice A th.length tc, .slice VA vals.length vc, .slice LA lucks.length lc] w fun e w' => e = .returned (.bool true) ∧ Below w.heap.size w w' := by
  have h' : 8 < th.length ∨ (¬ 8 < th.length ∧ 40 < vals.length) ∨ (¬ 8 < th.length ∧ ¬ 40 < vals.length ∧ 40 < lucks.length) := by omega
  rcases h' with h1 | ⟨h1, h2⟩ | ⟨h1, h2, h3⟩
  all_goals
    clear h
    go_enter Try.func6, Try.ntmps6
    go_wp2_with fail
    refine (shown_any _).mono ?_
    rintro e w1 ⟨rfl, hb1⟩
    go_wp2_with fail
    go_ret
    exact ⟨rfl, hb1⟩

set_option maxHeartbeats 12800000 in
theorem vals_any (A : Option Addr) (th : List In) (tc : Nat) (VA : Option Addr) (vals : List Int) (vc : Nat) (LA : Option Addr) (lucks : List Bool) (lc : Nat) (w : World) (hr : Rd w w.heap.size A (icells th)) (hrv : Rd w w.heap.size VA (is vals)) (hrl : Rd w w.heap.size LA (bs lucks))
    (hvi : ∀ v ∈ vals, I64 v) :
    Calls Try.prog 6 #[.slice A th.length tc, .slice VA vals.length vc, .slice LA lucks.length lc] w fun e w' => e = .returned (.bool true) ∧ Below w.heap.size w w' := by
  by_cases hg : th.length ≤ 8 ∧ vals.length ≤ 40 ∧ lucks.length ≤ 40
  case neg => exact vals_big A th tc VA vals vc LA lucks lc w (by omega)
  obtain ⟨g1, g2, g3⟩ := hg
  obtain ⟨S, hS⟩ : ∃ S, runS ⟨2, .slice VA vals.length vc, .slice LA lucks.length lc⟩ th vals lucks = S := ⟨_, rfl⟩
  have hV : InvV vals S := hS ▸ runS_invV _ th vals lucks
  have HQ : Hid (quietTo th th.length = true → S.vals = 0 ∧ S.lucks = 0 ∧ S.more = 0) := hS ▸ quiet_runs _ th vals lucks
  have hrun := fun w' h1 h2 h3 => run_any A th tc 2 VA vals vc LA lucks lc w' h1 h2 h3 (by omega) (by omega) (by omega) (by omega) hvi
  obtain ⟨n, hn8, hok⟩ := runS_okk (va := .slice VA vals.length vc) (la := .slice LA lucks.length lc) (th := th) (lucks := lucks) hvi (show (1 : Int) ≤ 2 by omega) (by omega)
  rw [hS] at hrun hok
  have hlen : S.ev.length ≤ 8 := by have := hok.ev; omega
  have hall := Lib.hid hV.all
  have hat := Lib.hid hV.at
  have hmore := hV.more
  clear hS hok hn8 n hV hvi
  go_enter Try.func6, Try.ntmps6
  go_wp2_with fail
  refine (shown_any _).mono ?_
  rintro e w1 ⟨rfl, hb1⟩
  have hr1 := hr.all hb1
  have hrv1 := hrv.all hb1
  have hrl1 := hrl.all hb1
  go_wp2_with fail
  refine (hrun _ hr1 hrv1 hrl1).mono ?_
  rintro e w2 ⟨⟨v, rfl, a1, a2, a3, a4, a5, k1, k2, k3, k4, k5, rfl, hE, hA, hD, hC, hP, _⟩, hb2⟩
  have hb := below_next hb1 hb2
  have hr2 := hr1.all hb2
  have hrv2 := hrv1.all hb2
  clear hrun hb1 hb2 hr1 hrv1 hrl1 hA hD hC hP
  unfold tarr at *
  have hT := Blk.new w2 #[.slice a1 S.ev.length k1, .slice a2 S.addr.length k2, .slice a3 S.data.length k3, .slice a4 S.ctrl.length k4, .slice a5 S.pair.length k5, .int .i64 S.f.v0, .int .i64 S.f.v1, .int .i64 S.f.v2, .int .i64 S.f.v3, .int .u32 (S.f.p0.toNat : Int), .int .u32 (S.f.p1.toNat : Int), .int .u32 (S.f.p2.toNat : Int), .int .u32 (S.f.p3.toNat : Int), .int .i64 (S.vals : Int), .int .i64 (S.lucks : Int), .int .i64 S.more] 40
  have hb3 := below_alloc hb (Obj.cells #[.slice a1 S.ev.length k1, .slice a2 S.addr.length k2, .slice a3 S.data.length k3, .slice a4 S.ctrl.length k4, .slice a5 S.pair.length k5, .int .i64 S.f.v0, .int .i64 S.f.v1, .int .i64 S.f.v2, .int .i64 S.f.v3, .int .u32 (S.f.p0.toNat : Int), .int .u32 (S.f.p1.toNat : Int), .int .u32 (S.f.p2.toNat : Int), .int .u32 (S.f.p3.toNat : Int), .int .i64 (S.vals : Int), .int .i64 (S.lucks : Int), .int .i64 S.more] 40) (Nat.le_refl _)
  have hr3 := hr2.next (Obj.cells #[.slice a1 S.ev.length k1, .slice a2 S.addr.length k2, .slice a3 S.data.length k3, .slice a4 S.ctrl.length k4, .slice a5 S.pair.length k5, .int .i64 S.f.v0, .int .i64 S.f.v1, .int .i64 S.f.v2, .int .i64 S.f.v3, .int .u32 (S.f.p0.toNat : Int), .int .u32 (S.f.p1.toNat : Int), .int .u32 (S.f.p2.toNat : Int), .int .u32 (S.f.p3.toNat : Int), .int .i64 (S.vals : Int), .int .i64 (S.lucks : Int), .int .i64 S.more] 40)
  have hrv3 := hrv2.next (Obj.cells #[.slice a1 S.ev.length k1, .slice a2 S.addr.length k2, .slice a3 S.data.length k3, .slice a4 S.ctrl.length k4, .slice a5 S.pair.length k5, .int .i64 S.f.v0, .int .i64 S.f.v1, .int .i64 S.f.v2, .int .i64 S.f.v3, .int .u32 (S.f.p0.toNat : Int), .int .u32 (S.f.p1.toNat : Int), .int .u32 (S.f.p2.toNat : Int), .int .u32 (S.f.p3.toNat : Int), .int .i64 (S.vals : Int), .int .i64 (S.lucks : Int), .int .i64 S.more] 40)
  have hE3 := hE.next (Obj.cells #[.slice a1 S.ev.length k1, .slice a2 S.addr.length k2, .slice a3 S.data.length k3, .slice a4 S.ctrl.length k4, .slice a5 S.pair.length k5, .int .i64 S.f.v0, .int .i64 S.f.v1, .int .i64 S.f.v2, .int .i64 S.f.v3, .int .u32 (S.f.p0.toNat : Int), .int .u32 (S.f.p1.toNat : Int), .int .u32 (S.f.p2.toNat : Int), .int .u32 (S.f.p3.toNat : Int), .int .i64 (S.vals : Int), .int .i64 (S.lucks : Int), .int .i64 S.more] 40)
  clear hb hr2 hrv2 hE
  go_wp2_with fail
  obtain ⟨w3, hw3⟩ : ∃ w3, (w2.alloc (.cells #[.slice a1 S.ev.length k1, .slice a2 S.addr.length k2, .slice a3 S.data.length k3, .slice a4 S.ctrl.length k4, .slice a5 S.pair.length k5, .int .i64 S.f.v0, .int .i64 S.f.v1, .int .i64 S.f.v2, .int .i64 S.f.v3, .int .u32 (S.f.p0.toNat : Int), .int .u32 (S.f.p1.toNat : Int), .int .u32 (S.f.p2.toNat : Int), .int .u32 (S.f.p3.toNat : Int), .int .i64 (S.vals : Int), .int .i64 (S.lucks : Int), .int .i64 S.more] 40)) = w3 := ⟨_, rfl⟩
  rw [hw3] at hT hb3 hr3 hrv3 hE3
  rw [hw3]
  clear hw3
  have hlt3 := hT.lt
  go_loopw [9, 10] (fun a i wr => ∃ k : Nat, k ≤ S.ev.length ∧ i = .int .i64 k ∧ a = .int .i64 (readsTo S.ev k : Nat) ∧ Below w3.heap.size w3 wr)
    (fun _ i _ => S.ev.length - (intOf i).toNat)
  case atStart => exact ⟨0, by omega, rfl, rfl, Below.refl _ _⟩
  case round =>
    obtain ⟨k, hk, rfl, rfl, hbr⟩ := hrel
    have hTr := hT.later hbr
    have q0 := hTr.cell 0 (.slice a1 S.ev.length k1) rfl
    have hsr := hbr.size
    by_cases hlt : k < S.ev.length
    · obtain ⟨be, oe, ha1, hbe, hce⟩ := (hE3.below hbr).at_ev hlt
      subst ha1
      have e1 := (hce k hlt).c1
      have e3 := (hce k hlt).c3
      have i0 : (0 : Int) ≤ (k : Int) := by omega
      have i1 : (k : Int) < (S.ev.length : Int) := by omega
      clear hce
      cases hk1 : (S.ev[k].kind == 1) with
      | true =>
        have Hs := Lib.hid (readsTo_yes S.ev k hlt hk1)
        obtain ⟨hrl, hrvv⟩ := hat.out k hlt hk1
        obtain ⟨bv, ov, ha2, hbv, hcv⟩ := (hrv3.below hbr).at_is hrl
        subst ha2
        have v0 := hcv _ hrl
        rw [hrvv] at v0
        clear hcv hrvv
        obtain ⟨m, hm⟩ : ∃ m, readsTo S.ev k = m := ⟨_, rfl⟩
        rw [hm] at hrl v0
        rw [hm]
        have Hm := Lib.hid hm
        clear hm
        have hm40 : m < 40 := by omega
        have t1 : decide (vals.length ≤ m) = false := by simp; omega
        have m0 : (0 : Int) ≤ (m : Int) := by omega
        have m1 : (m : Int) < (vals.length : Int) := by omega
        go_wp2_with fail
        go_quiet (fail)
        go_wp2_with fail
        go_roundw
        case rel => exact ⟨k + 1, by omega, by go_num, by rw [Hs.out, Hm.out]; go_num, below_drewN hbr _⟩
        case measure => simp [intOf]; omega
      | false =>
        have Hs := Lib.hid (readsTo_no S.ev k hlt hk1)
        go_wp2_with fail
        go_roundw
        case rel => exact ⟨k + 1, by omega, by go_num, by rw [Hs.out], hbr⟩
        case measure => simp [intOf]; omega
    · obtain rfl : k = S.ev.length := by omega
      rw [hall.out]
      have hr4 := hr3.below hbr
      have hb4 := hb3.trans (hbr.mono hb3.size)
      clear hr3 hrv3 hE3 hat hall hT hb3 hbr hsr
      obtain ⟨w4, hw4⟩ : ∃ w4, wr = w4 := ⟨_, rfl⟩
      subst hw4
      go_wp2_with fail
      go_loopw [11, 12] (fun q i wx => ∃ k : Nat, k ≤ th.length ∧ i = .int .i64 k ∧ q = .bool (quietTo th k) ∧ wr = wx)
        (fun _ i _ => th.length - (intOf i).toNat)
      case atStart => exact ⟨0, by omega, rfl, rfl, rfl⟩
      case round =>
        obtain ⟨k, hk, rfl, rfl, rfl⟩ := hrel
        by_cases hlt : k < th.length
        · obtain ⟨bt, ot, ha, hbt, hct⟩ := hr4.at_in hlt
          subst ha
          have c0 := (hct k hlt).c0
          have i0 : (0 : Int) ≤ (k : Int) := by omega
          have i1 : (k : Int) < (th.length : Int) := by omega
          clear hct
          have Hs : Hid (quietTo th (k + 1) = (quietTo th k && (th[k].op != 5 && th[k].op != 7 && th[k].op != 9 && th[k].op != 10))) := quietTo_succ th k hlt
          generalize th[k].op = op at *
          cases hq : quietTo th k with
          | false =>
            rw [hq] at Hs
            have Hq := Lib.hid hq
            clear hq
            go_wp2_with fail
            go_roundw
            case rel => exact ⟨k + 1, by omega, by go_num, by rw [Hs.out]; rfl, trivial⟩
            case measure => simp [intOf]; omega
          | true =>
            rw [hq] at Hs
            have Hq := Lib.hid hq
            clear hq
            have hor : (op != 5) = false ∨ ((op != 5) = true ∧ (op != 7) = false) ∨ ((op != 5) = true ∧ (op != 7) = true ∧ (op != 9) = false) ∨ ((op != 5) = true ∧ (op != 7) = true ∧ (op != 9) = true ∧ (op != 10) = false) ∨ ((op != 5) = true ∧ (op != 7) = true ∧ (op != 9) = true ∧ (op != 10) = true) := by
              cases (op != 5) <;> cases (op != 7) <;> cases (op != 9) <;> cases (op != 10) <;> simp
            rcases hor with h5 | ⟨h5, h7⟩ | ⟨h5, h7, h9⟩ | ⟨h5, h7, h9, h10⟩ | ⟨h5, h7, h9, h10⟩
            · have Hs2 : Hid (quietTo th (k + 1) = false) := by unfold Hid; rw [Hs.out, h5]; rfl
              clear Hs
              go_wp2_with fail
              go_roundw
              case rel => exact ⟨k + 1, by omega, by go_num, by rw [Hs2.out], trivial⟩
              case measure => simp [intOf]; omega
            · have Hs2 : Hid (quietTo th (k + 1) = false) := by unfold Hid; rw [Hs.out, h5, h7]; rfl
              clear Hs
              go_wp2_with fail
              go_roundw
              case rel => exact ⟨k + 1, by omega, by go_num, by rw [Hs2.out], trivial⟩
              case measure => simp [intOf]; omega
            · have Hs2 : Hid (quietTo th (k + 1) = false) := by unfold Hid; rw [Hs.out, h5, h7, h9]; rfl
              clear Hs
              go_wp2_with fail
              go_roundw
              case rel => exact ⟨k + 1, by omega, by go_num, by rw [Hs2.out], trivial⟩
              case measure => simp [intOf]; omega
            · have Hs2 : Hid (quietTo th (k + 1) = false) := by unfold Hid; rw [Hs.out, h5, h7, h9, h10]; rfl
              clear Hs
              go_wp2_with fail
              go_roundw
              case rel => exact ⟨k + 1, by omega, by go_num, by rw [Hs2.out], trivial⟩
              case measure => simp [intOf]; omega
            · have Hs2 : Hid (quietTo th (k + 1) = true) := by unfold Hid; rw [Hs.out, h5, h7, h9, h10]; rfl
              clear Hs
              go_wp2_with fail
              go_roundw
              case rel => exact ⟨k + 1, by omega, by go_num, by rw [Hs2.out], trivial⟩
              case measure => simp [intOf]; omega
        · obtain rfl : k = th.length := by omega
          have q13 := hTr.cell 13 (.int .i64 (S.vals : Int)) rfl
          have q14 := hTr.cell 14 (.int .i64 (S.lucks : Int)) rfl
          have q15 := hTr.cell 15 (.int .i64 S.more) rfl
          obtain ⟨m0, m2⟩ := hmore
          cases hq : quietTo th th.length with
          | true =>
            obtain ⟨z1, z2, z3⟩ := HQ.out hq
            have t1 : ((S.vals : Int) == 0) = true := by rw [z1]; rfl
            have t2 : ((S.lucks : Int) == 0) = true := by rw [z2]; rfl
            have t3 : (S.more == 0) = true := by rw [z3]; rfl
            clear z1 z2 z3 hq
            go_wp2_with fail
            go_ret
            exact ⟨rfl, hb4⟩
          | false =>
            clear hq
            go_wp2_with fail
            go_ret
            exact ⟨rfl, hb4⟩

end Go.Proofs.Ytgefngjfpodiiaa
