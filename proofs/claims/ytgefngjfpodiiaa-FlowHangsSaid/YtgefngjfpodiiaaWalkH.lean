/-
  The statement FlowHangs answers true of whatever lists, by a walk.
-/
import Derived.Test.YtgefngjfpodiiaaPlainH
import Derived.Test.YtgefngjfpodiiaaShown8
namespace Go.Proofs.Ytgefngjfpodiiaa
open Go.RowKit
set_option linter.unusedVariables false

theorem below_drewN {B : Nat} {a b : World} (h : Below B a b) (n : Nat) : Below B a (b.drewN n) := ⟨h.os, h.tape, h.output, h.size, h.block⟩

set_option maxRecDepth 100000 in
set_option maxHeartbeats 3200000 in
theorem hangs_big (A : Option Addr) (th : List In) (tc : Nat) (VA : Option Addr) (vals : List Int) (vc : Nat) (LA : Option Addr) (lucks : List Bool) (lc : Nat) (w : World) (h : 8 < th.length ∨ 40 < vals.length ∨ 40 < lucks.length) :
    Calls Try.prog 5 #[.slice A th.length tc, .slice VA vals.length vc, .slice LA lucks.length lc] w fun e w' => e = .returned (.bool true) ∧ Below w.heap.size w w' := by
  have h' : 8 < th.length ∨ (¬ 8 < th.length ∧ 40 < vals.length) ∨ (¬ 8 < th.length ∧ ¬ 40 < vals.length ∧ 40 < lucks.length) := by omega
  rcases h' with h1 | ⟨h1, h2⟩ | ⟨h1, h2, h3⟩
  all_goals
    clear h
    go_enter Try.func5, Try.ntmps5
    go_wp2_with fail
    refine (shown_any _).mono ?_
    rintro e w1 ⟨rfl, hb1⟩
    go_wp2_with fail
    go_ret
    exact ⟨rfl, hb1⟩

set_option maxRecDepth 100000 in
set_option maxHeartbeats 25600000 in
theorem hangs_any (A : Option Addr) (th : List In) (tc : Nat) (VA : Option Addr) (vals : List Int) (vc : Nat) (LA : Option Addr) (lucks : List Bool) (lc : Nat) (w : World) (hr : Rd w w.heap.size A (icells th)) (hrv : Rd w w.heap.size VA (is vals)) (hrl : Rd w w.heap.size LA (bs lucks))
    (hvi : ∀ v ∈ vals, I64 v) :
    Calls Try.prog 5 #[.slice A th.length tc, .slice VA vals.length vc, .slice LA lucks.length lc] w fun e w' => e = .returned (.bool true) ∧ Below w.heap.size w w' := by
  by_cases hg : th.length ≤ 8 ∧ vals.length ≤ 40 ∧ lucks.length ≤ 40
  case neg => exact hangs_big A th tc VA vals vc LA lucks lc w (by omega)
  obtain ⟨g1, g2, g3⟩ := hg
  obtain ⟨S, hS⟩ : ∃ S, runS ⟨2, .slice VA vals.length vc, .slice LA lucks.length lc⟩ th vals lucks = S := ⟨_, rfl⟩
  have hH : InvH S := hS ▸ runS_invH _ th vals lucks
  have la := hH.ad
  have ld := hH.da
  have lct := hH.ct
  have lp := hH.pr
  have Hat := Lib.hid hH.at_
  obtain ⟨f0, f1, f2, f3⟩ := hH.f
  have hrun := fun w' h1 h2 h3 => run_any A th tc 2 VA vals vc LA lucks lc w' h1 h2 h3 (by omega) (by omega) (by omega) (by omega) hvi
  obtain ⟨n, hn8, hok⟩ := runS_okk (va := .slice VA vals.length vc) (la := .slice LA lucks.length lc) (th := th) (lucks := lucks) hvi (show (1 : Int) ≤ 2 by omega) (by omega)
  rw [hS] at hrun hok
  have hlen : S.ev.length ≤ 8 := by have := hok.ev; omega
  clear hS hok hn8 n hvi
  go_enter Try.func5, Try.ntmps5
  go_wp2_with fail
  refine (shown_any _).mono ?_
  rintro e w1 ⟨rfl, hb1⟩
  have hr1 := hr.all hb1
  have hrv1 := hrv.all hb1
  have hrl1 := hrl.all hb1
  go_wp2_with fail
  refine (hrun _ hr1 hrv1 hrl1).mono ?_
  rintro e w2 ⟨⟨v, rfl, a1, a2, a3, a4, a5, k1, k2, k3, k4, k5, rfl, hE, hA, hD, hC, hP, hcap⟩, hb2⟩
  have hb := below_next hb1 hb2
  have hr2 := hr1.all hb2
  have hrv2 := hrv1.all hb2
  have hrl2 := hrl1.all hb2
  clear hrun hb1 hb2 hr1 hrv1 hrl1
  unfold tarr at *
  have hT := Blk.new w2 #[.slice a1 S.ev.length k1, .slice a2 S.addr.length k2, .slice a3 S.data.length k3, .slice a4 S.ctrl.length k4, .slice a5 S.pair.length k5, .int .i64 S.f.v0, .int .i64 S.f.v1, .int .i64 S.f.v2, .int .i64 S.f.v3, .int .u32 (S.f.p0.toNat : Int), .int .u32 (S.f.p1.toNat : Int), .int .u32 (S.f.p2.toNat : Int), .int .u32 (S.f.p3.toNat : Int), .int .i64 (S.vals : Int), .int .i64 (S.lucks : Int), .int .i64 S.more] 40
  have hb3 := below_alloc hb (Obj.cells #[.slice a1 S.ev.length k1, .slice a2 S.addr.length k2, .slice a3 S.data.length k3, .slice a4 S.ctrl.length k4, .slice a5 S.pair.length k5, .int .i64 S.f.v0, .int .i64 S.f.v1, .int .i64 S.f.v2, .int .i64 S.f.v3, .int .u32 (S.f.p0.toNat : Int), .int .u32 (S.f.p1.toNat : Int), .int .u32 (S.f.p2.toNat : Int), .int .u32 (S.f.p3.toNat : Int), .int .i64 (S.vals : Int), .int .i64 (S.lucks : Int), .int .i64 S.more] 40) (Nat.le_refl _)
  have hr3 := hr2.next (Obj.cells #[.slice a1 S.ev.length k1, .slice a2 S.addr.length k2, .slice a3 S.data.length k3, .slice a4 S.ctrl.length k4, .slice a5 S.pair.length k5, .int .i64 S.f.v0, .int .i64 S.f.v1, .int .i64 S.f.v2, .int .i64 S.f.v3, .int .u32 (S.f.p0.toNat : Int), .int .u32 (S.f.p1.toNat : Int), .int .u32 (S.f.p2.toNat : Int), .int .u32 (S.f.p3.toNat : Int), .int .i64 (S.vals : Int), .int .i64 (S.lucks : Int), .int .i64 S.more] 40)
  have hrv3 := hrv2.next (Obj.cells #[.slice a1 S.ev.length k1, .slice a2 S.addr.length k2, .slice a3 S.data.length k3, .slice a4 S.ctrl.length k4, .slice a5 S.pair.length k5, .int .i64 S.f.v0, .int .i64 S.f.v1, .int .i64 S.f.v2, .int .i64 S.f.v3, .int .u32 (S.f.p0.toNat : Int), .int .u32 (S.f.p1.toNat : Int), .int .u32 (S.f.p2.toNat : Int), .int .u32 (S.f.p3.toNat : Int), .int .i64 (S.vals : Int), .int .i64 (S.lucks : Int), .int .i64 S.more] 40)
  have hrl3 := hrl2.next (Obj.cells #[.slice a1 S.ev.length k1, .slice a2 S.addr.length k2, .slice a3 S.data.length k3, .slice a4 S.ctrl.length k4, .slice a5 S.pair.length k5, .int .i64 S.f.v0, .int .i64 S.f.v1, .int .i64 S.f.v2, .int .i64 S.f.v3, .int .u32 (S.f.p0.toNat : Int), .int .u32 (S.f.p1.toNat : Int), .int .u32 (S.f.p2.toNat : Int), .int .u32 (S.f.p3.toNat : Int), .int .i64 (S.vals : Int), .int .i64 (S.lucks : Int), .int .i64 S.more] 40)
  have hE3 := hE.next (Obj.cells #[.slice a1 S.ev.length k1, .slice a2 S.addr.length k2, .slice a3 S.data.length k3, .slice a4 S.ctrl.length k4, .slice a5 S.pair.length k5, .int .i64 S.f.v0, .int .i64 S.f.v1, .int .i64 S.f.v2, .int .i64 S.f.v3, .int .u32 (S.f.p0.toNat : Int), .int .u32 (S.f.p1.toNat : Int), .int .u32 (S.f.p2.toNat : Int), .int .u32 (S.f.p3.toNat : Int), .int .i64 (S.vals : Int), .int .i64 (S.lucks : Int), .int .i64 S.more] 40)
  have hA3 := hA.next (Obj.cells #[.slice a1 S.ev.length k1, .slice a2 S.addr.length k2, .slice a3 S.data.length k3, .slice a4 S.ctrl.length k4, .slice a5 S.pair.length k5, .int .i64 S.f.v0, .int .i64 S.f.v1, .int .i64 S.f.v2, .int .i64 S.f.v3, .int .u32 (S.f.p0.toNat : Int), .int .u32 (S.f.p1.toNat : Int), .int .u32 (S.f.p2.toNat : Int), .int .u32 (S.f.p3.toNat : Int), .int .i64 (S.vals : Int), .int .i64 (S.lucks : Int), .int .i64 S.more] 40)
  have hD3 := hD.next (Obj.cells #[.slice a1 S.ev.length k1, .slice a2 S.addr.length k2, .slice a3 S.data.length k3, .slice a4 S.ctrl.length k4, .slice a5 S.pair.length k5, .int .i64 S.f.v0, .int .i64 S.f.v1, .int .i64 S.f.v2, .int .i64 S.f.v3, .int .u32 (S.f.p0.toNat : Int), .int .u32 (S.f.p1.toNat : Int), .int .u32 (S.f.p2.toNat : Int), .int .u32 (S.f.p3.toNat : Int), .int .i64 (S.vals : Int), .int .i64 (S.lucks : Int), .int .i64 S.more] 40)
  have hC3 := hC.next (Obj.cells #[.slice a1 S.ev.length k1, .slice a2 S.addr.length k2, .slice a3 S.data.length k3, .slice a4 S.ctrl.length k4, .slice a5 S.pair.length k5, .int .i64 S.f.v0, .int .i64 S.f.v1, .int .i64 S.f.v2, .int .i64 S.f.v3, .int .u32 (S.f.p0.toNat : Int), .int .u32 (S.f.p1.toNat : Int), .int .u32 (S.f.p2.toNat : Int), .int .u32 (S.f.p3.toNat : Int), .int .i64 (S.vals : Int), .int .i64 (S.lucks : Int), .int .i64 S.more] 40)
  have hP3 := hP.next (Obj.cells #[.slice a1 S.ev.length k1, .slice a2 S.addr.length k2, .slice a3 S.data.length k3, .slice a4 S.ctrl.length k4, .slice a5 S.pair.length k5, .int .i64 S.f.v0, .int .i64 S.f.v1, .int .i64 S.f.v2, .int .i64 S.f.v3, .int .u32 (S.f.p0.toNat : Int), .int .u32 (S.f.p1.toNat : Int), .int .u32 (S.f.p2.toNat : Int), .int .u32 (S.f.p3.toNat : Int), .int .i64 (S.vals : Int), .int .i64 (S.lucks : Int), .int .i64 S.more] 40)
  clear hb hr2 hrv2 hrl2 hE hA hD hC hP
  have T1 : ((S.addr.length : Int) != (S.ev.length : Int)) = false := by simp [la]
  have T2 : ((S.data.length : Int) != (S.ev.length : Int)) = false := by simp [ld]
  have T3 : ((S.ctrl.length : Int) != (S.ev.length : Int)) = false := by simp [lct]
  have T4 : ((S.pair.length : Int) != (S.ev.length : Int)) = false := by simp [lp]
  have Lla := Lib.hid la
  have Lld := Lib.hid ld
  have Llc := Lib.hid lct
  have Llp := Lib.hid lp
  clear la ld lct lp
  have q0 := hT.cell 0 (.slice a1 S.ev.length k1) rfl
  have q1 := hT.cell 1 (.slice a2 S.addr.length k2) rfl
  have q2 := hT.cell 2 (.slice a3 S.data.length k3) rfl
  have q3 := hT.cell 3 (.slice a4 S.ctrl.length k4) rfl
  have q4 := hT.cell 4 (.slice a5 S.pair.length k5) rfl
  go_wp2_with fail
  obtain ⟨w3, hw3⟩ : ∃ w3, (w2.alloc (.cells #[.slice a1 S.ev.length k1, .slice a2 S.addr.length k2, .slice a3 S.data.length k3, .slice a4 S.ctrl.length k4, .slice a5 S.pair.length k5, .int .i64 S.f.v0, .int .i64 S.f.v1, .int .i64 S.f.v2, .int .i64 S.f.v3, .int .u32 (S.f.p0.toNat : Int), .int .u32 (S.f.p1.toNat : Int), .int .u32 (S.f.p2.toNat : Int), .int .u32 (S.f.p3.toNat : Int), .int .i64 (S.vals : Int), .int .i64 (S.lucks : Int), .int .i64 S.more] 40)) = w3 := ⟨_, rfl⟩
  rw [hw3] at hT hb3 hr3 hrv3 hrl3 hE3 hA3 hD3 hC3 hP3
  clear q0 q1 q2 q3 q4 T1 T2 T3 T4
  rw [hw3]
  clear hw3
  have hlt3 := hT.lt
  go_loopw [10, 11, 12] (fun m cp i wr => ∃ k : Nat, k ≤ S.ev.length ∧ i = .int .i64 k ∧ m = .int .u32 ((readM S.ev k).toNat : Int) ∧ cp = .int .u32 ((prevC S.ctrl k).toNat : Int) ∧ Below w3.heap.size w3 wr)
    (fun _ _ i _ => S.ev.length - (intOf i).toNat)
  case atStart => exact ⟨0, by omega, rfl, rfl, rfl, Below.refl _ _⟩
  case round =>
    obtain ⟨k, hk, rfl, rfl, rfl, hbr⟩ := hrel
    have hTr := hT.later hbr
    have hsr := hbr.size
    have hT2 : w2.heap.size < wr.heap.size := by omega
    by_cases hlt : k < S.ev.length
    · have hla : k < S.addr.length := by have := Lla.out; omega
      have hld : k < S.data.length := by have := Lld.out; omega
      have hlc : k < S.ctrl.length := by have := Llc.out; omega
      have hlp : k < S.pair.length := by have := Llp.out; omega
      have q0 := hTr.cell 0 (.slice a1 S.ev.length k1) rfl
      have q1 := hTr.cell 1 (.slice a2 S.addr.length k2) rfl
      have q2 := hTr.cell 2 (.slice a3 S.data.length k3) rfl
      have q3 := hTr.cell 3 (.slice a4 S.ctrl.length k4) rfl
      have q4 := hTr.cell 4 (.slice a5 S.pair.length k5) rfl
      obtain ⟨be, oe, ha1, hbe, hce⟩ := (hE3.below hbr).at_ev hlt
      subst ha1
      obtain ⟨ba, oa, ha2, hba, hca⟩ := (hA3.below hbr).at_us hla
      subst ha2
      obtain ⟨bd, od, ha3, hbd, hcd⟩ := (hD3.below hbr).at_us hld
      subst ha3
      obtain ⟨bc, oc, ha4, hbc, hcc⟩ := (hC3.below hbr).at_us hlc
      subst ha4
      obtain ⟨bp, op, ha5, hbp, hcp⟩ := (hP3.below hbr).at_is hlp
      subst ha5
      have hbe := Nat.lt_of_lt_of_le hbe hsr
      have hba := Nat.lt_of_lt_of_le hba hsr
      have hbd := Nat.lt_of_lt_of_le hbd hsr
      have hbc := Nat.lt_of_lt_of_le hbc hsr
      have hbp := Nat.lt_of_lt_of_le hbp hsr
      have ak := hca k hla
      have dk := hcd k hld
      have ck := hcc k hlc
      have pk := hcp k hlp
      have Hce := Lib.hid hce
      have i0 : (0 : Int) ≤ (k : Int) := by omega
      have i1 : (k : Int) < (S.ev.length : Int) := by omega
      have i2 : (k : Int) < (S.addr.length : Int) := by omega
      have i3 : (k : Int) < (S.data.length : Int) := by omega
      have i4 : (k : Int) < (S.ctrl.length : Int) := by omega
      have i5 : (k : Int) < (S.pair.length : Int) := by omega
      obtain ⟨e0, e1, e2, e3, e4, e5, e6⟩ := hce k hlt
      clear hce hca hcd hcc hcp
      have hh := Hat.out k hlt
      have b1 := bits_or S.addr[k] S.data[k]
      have b2 := bits_or (S.addr[k] ||| S.data[k]) S.ctrl[k]
      have b3 : bits .andNot .u32 ((S.addr[k] ||| S.data[k] ||| S.ctrl[k]).toNat : Int) ((readM S.ev k).toNat : Int) = 0 := by
        rw [bits_minus, ((hh.sa.or hh.sd).or hh.sc).minus]; rfl
      have b4 : bits .andNot .u32 ((prevC S.ctrl k).toNat : Int) (S.ctrl[k].toNat : Int) = 0 := by rw [bits_minus, hh.pc.minus]; rfl
      obtain ⟨X1, hX1⟩ : ∃ X : Int, ((S.addr[k] ||| S.data[k]).toNat : Int) = X := ⟨_, rfl⟩
      obtain ⟨X2, hX2⟩ : ∃ X : Int, ((S.addr[k] ||| S.data[k] ||| S.ctrl[k]).toNat : Int) = X := ⟨_, rfl⟩
      rw [hX1] at b1 b2
      rw [hX2] at b2 b3
      clear hX1 hX2
      have u1 : decide (S.ev[k].kind < 1) = false := by have := hh.k1; simp; omega
      have u2 : decide (6 < S.ev[k].kind) = false := by have := hh.k6; simp; omega
      have u3 : (S.ev[k].thread != 0) = false := by simp [hh.th]
      have Hp := Lib.hid (prevC_succ S.ctrl k hlc)
      have HM := Lib.hid (readM_succ S.ev k hlt)
      have hk8 : k < 32 := by omega
      have hpl := hh.pl
      have hbx := below_alloc hbr (.cells #[.int .i64 S.ev[k].thread, .int .i64 S.ev[k].kind, .int .i64 S.ev[k].loc, .int .i64 S.ev[k].val, .bool S.ev[k].acq, .bool S.ev[k].rel, .bool S.ev[k].excl] 47) (Nat.le_refl _)
      clear hbr hT hE3 hA3 hD3 hC3 hP3 hTr Hat f0 f1 f2 f3
      cases hk2 : (S.ev[k].kind == 2) with
      | false =>
        have hne : S.ev[k].kind ≠ 2 := by simpa using hk2
        have t1 : (S.ev[k].kind != 2) = true := by simp [hne]
        have t2 : ((S.data[k].toNat : Int) != 0) = false := by rw [hh.dz hne]; rfl
        have hp : ¬ 0 ≤ S.pair[k] := fun h => hne (hh.px.1 h).1
        have t3 : decide (0 ≤ S.pair[k]) = false := by simp; omega
        have t4 : decide ((k : Int) ≤ S.pair[k]) = false := by simp; omega
        clear hh hp hne hpl
        cases hk1 : (S.ev[k].kind == 1) with
        | true =>
          have HM2 : Hid (readM S.ev (k + 1) = readM S.ev k ||| bitv k) := by unfold Hid; rw [HM.out, if_pos (show isRead S.ev[k] = true from hk1)]
          go_wp2_with fail
          go_quiet (fail)
          go_wp2_with fail
          go_quiet (fail)
          go_wp2_with fail
          go_roundw
          case rel => exact ⟨k + 1, by omega, by go_num, by rw [HM2.out, ← bits_or, ← bitv_int], by rw [Hp.out], below_drewN hbx _⟩
          case measure => simp [intOf]; omega
        | false =>
          have HM2 : Hid (readM S.ev (k + 1) = readM S.ev k) := by unfold Hid; rw [HM.out, if_neg (show ¬ isRead S.ev[k] = true by rw [show isRead S.ev[k] = (S.ev[k].kind == 1) from rfl, hk1]; decide)]
          go_wp2_with fail
          go_quiet (fail)
          go_wp2_with fail
          go_quiet (fail)
          go_wp2_with fail
          go_roundw
          case rel => exact ⟨k + 1, by omega, by go_num, by rw [HM2.out], by rw [Hp.out], below_drewN hbx _⟩
          case measure => simp [intOf]; omega
      | true =>
        have heq : S.ev[k].kind = 2 := by simpa using hk2
        have t1 : (S.ev[k].kind != 2) = false := by simp [heq]
        have hk1 : (S.ev[k].kind == 1) = false := by simp [heq]
        have HM2 : Hid (readM S.ev (k + 1) = readM S.ev k) := by unfold Hid; rw [HM.out, if_neg (show ¬ isRead S.ev[k] = true by rw [show isRead S.ev[k] = (S.ev[k].kind == 1) from rfl, hk1]; decide)]
        cases hex : S.ev[k].excl with
        | false =>
          have hp : ¬ 0 ≤ S.pair[k] := fun h => by have := (hh.px.1 h).2; rw [hex] at this; cases this
          have t3 : decide (0 ≤ S.pair[k]) = false := by simp; omega
          have t4 : decide ((k : Int) ≤ S.pair[k]) = false := by simp; omega
          rw [hex] at e6 hbx
          clear hh hp hpl hex heq
          go_wp2_with fail
          go_quiet (fail)
          go_wp2_with fail
          go_quiet (fail)
          go_wp2_with fail
          go_roundw
          case rel => exact ⟨k + 1, by omega, by go_num, by rw [HM2.out], by rw [Hp.out], below_drewN hbx _⟩
          case measure => simp [intOf]; omega
        | true =>
          have hp : 0 ≤ S.pair[k] := hh.px.2 ⟨heq, hex⟩
          obtain ⟨q, hq, hq1, hq2, hq3⟩ := hh.pe hp
          obtain ⟨hpn, hq'⟩ := List.getElem?_eq_some_iff.1 hq
          obtain ⟨pn, hpn'⟩ : ∃ pn, S.pair[k].toNat = pn := ⟨_, rfl⟩
          rw [hpn'] at hpn
          simp only [hpn'] at hq'
          have hpk : S.pair[k] = (pn : Int) := by omega
          rw [hpk] at pk hpl
          subst hq'
          obtain ⟨g0, g1', g2', g3', g4, g5, g6⟩ := Hce.out pn hpn
          rw [hq2] at g6
          have t3 : (S.ev[pn].kind != 1) = false := by simp [hq1]
          have t4 : (S.ev[pn].loc != S.ev[k].loc) = false := by simp [hq3]
          have t5 : decide (k ≤ pn) = false := by simp; omega
          have j0 : (0 : Int) ≤ (pn : Int) := by omega
          have j1 : (pn : Int) < (S.ev.length : Int) := by omega
          rw [hex] at e6 hbx
          clear hh hp hpl hex heq hq hq1 hq2 hq3 hpn' hpk
          go_wp2_with fail
          go_quiet (fail)
          go_wp2_with fail
          go_quiet (fail)
          go_wp2_with fail
          go_roundw
          case rel => exact ⟨k + 1, by omega, by go_num, by rw [HM2.out], by rw [Hp.out], below_drewN hbx _⟩
          case measure => simp [intOf]; omega
    · obtain rfl : k = S.ev.length := by omega
      have hb4 := hb3.trans (hbr.mono hb3.size)
      have m0 : bits .andNot .u32 (S.f.p0.toNat : Int) ((readM S.ev S.ev.length).toNat : Int) = 0 := by rw [bits_minus, f0.minus]; rfl
      have m1 : bits .andNot .u32 (S.f.p1.toNat : Int) ((readM S.ev S.ev.length).toNat : Int) = 0 := by rw [bits_minus, f1.minus]; rfl
      have m2 : bits .andNot .u32 (S.f.p2.toNat : Int) ((readM S.ev S.ev.length).toNat : Int) = 0 := by rw [bits_minus, f2.minus]; rfl
      have m3 : bits .andNot .u32 (S.f.p3.toNat : Int) ((readM S.ev S.ev.length).toNat : Int) = 0 := by rw [bits_minus, f3.minus]; rfl
      have q9 := hTr.cell 9 (.int .u32 (S.f.p0.toNat : Int)) rfl
      have q10 := hTr.cell 10 (.int .u32 (S.f.p1.toNat : Int)) rfl
      have q11 := hTr.cell 11 (.int .u32 (S.f.p2.toNat : Int)) rfl
      have q12 := hTr.cell 12 (.int .u32 (S.f.p3.toNat : Int)) rfl
      generalize readM S.ev S.ev.length = M at *
      clear hr3 hrv3 hrl3 hE3 hA3 hD3 hC3 hP3 hT hb3 hbr hsr hTr Hat f0 f1 f2 f3
      obtain ⟨w4, hw4⟩ : ∃ w4, wr = w4 := ⟨_, rfl⟩
      subst hw4
      go_wp2_with fail
      go_loopw [15] (fun i wx => ∃ k : Nat, k ≤ 4 ∧ i = .int .i64 k ∧ wr = wx)
        (fun i _ => 4 - (intOf i).toNat)
      case atStart => exact ⟨0, by omega, rfl, rfl⟩
      case round =>
        obtain ⟨k, hk, rfl, rfl⟩ := hrel
        have hcs : k = 0 ∨ k = 1 ∨ k = 2 ∨ k = 3 ∨ k = 4 := by omega
        rcases hcs with rfl | rfl | rfl | rfl | rfl
        · go_wp2_with fail
          go_roundw
          case rel => exact ⟨1, by omega, rfl, trivial⟩
          case measure => simp [intOf]
        · go_wp2_with fail
          go_roundw
          case rel => exact ⟨2, by omega, rfl, trivial⟩
          case measure => simp [intOf]
        · go_wp2_with fail
          go_roundw
          case rel => exact ⟨3, by omega, rfl, trivial⟩
          case measure => simp [intOf]
        · go_wp2_with fail
          go_roundw
          case rel => exact ⟨4, by omega, rfl, trivial⟩
          case measure => simp [intOf]
        · go_wp2_with fail
          go_ret
          exact ⟨rfl, hb4⟩

end Go.Proofs.Ytgefngjfpodiiaa
