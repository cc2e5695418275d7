/-
  A thread adds an event (flow's event), by a walk.
-/
import Derived.Test.YtgefngjfpodiiaaFlowD
import Derived.Deep.RegionLaw
import Derived.Deep.CutRange
namespace Go.Proofs.Ytgefngjfpodiiaa
open Go.RowKit
set_option linter.unusedVariables false

theorem info_u32 : (Try.prog.info? 31).map (fun i => (i.zero, i.size, i.bytes)) = some (some (.int .u32 0), 1, 4) := by kernel_rfl
theorem info_int : (Try.prog.info? 3).map (fun i => (i.zero, i.size, i.bytes)) = some (some (.int .i64 0), 1, 8) := by kernel_rfl
theorem info_event : (Try.prog.info? 47).map (fun i => (i.zero, i.size, i.bytes)) = some (some (.agg #[.int .i64 0, .int .i64 0, .int .i64 0, .int .i64 0, .bool false, .bool false, .bool false]), 7, 40) := by kernel_rfl

theorem ecells_one_ev (e : Ev) : ecells [e] = [.int .i64 e.thread, .int .i64 e.kind, .int .i64 e.loc, .int .i64 e.val, .bool e.acq, .bool e.rel, .bool e.excl] := by simp [ecells, Ev.arr]

theorem blk_at (w : World) (n : Nat) (hn : w.heap.size = n) (cs : Array Value) (t : TypeId) : (w.alloc (.cells cs t)).heap[n]? = some (.cells cs t (0, 0)) := hn ▸ heap_alloc_new _ _

/-- One row of the thread's has grown, and its slice is stored. -/
theorem grown_stored {w w' : World} {K : Nat → Prop} {g : Nat} {rows : List Row} {cs cs' : Array Value} {t : TypeId} (hR : Rws w K g rows) (hB : Blk w g cs t) (i : Nat) {r r' : Row} (hi : rows[i]? = some r) {g1 n1 c1 : Nat} (hg : w.grownBy w' r.v.ownBlock)
    (hv : r'.v = .slice (some ⟨g1, 0, none⟩) n1 c1) (hown : w'.ownsRow 0 r'.t r'.size r'.v r'.n r'.xs) (hat : r.v.ownBlock = some g1 ∨ g1 = w.heap.size) (hcs : cs' = cs.setIfInBounds i r'.v) :
    Blk (w'.setCell ⟨g, i, none⟩ r'.v) g cs' t ∧ Rws (w'.setCell ⟨g, i, none⟩ r'.v) K g (rows.set i r') ∧ Kp K w (w'.setCell ⟨g, i, none⟩ r'.v) := by
  have hB' : Blk w' g cs t := (hg.block g hR.gl (fun e => hR.offg i r hi e.symm)).trans hB
  refine ⟨hcs ▸ hB'.set i _, (hR.grow i hi hg hv hown hat).set i _, (Kp.grown hg (fun k hk => ⟨(hR.kg k hk).2, hR.off i r k hi hk⟩)).set (fun hk => (hR.kg g hk).1 rfl) i _⟩

set_option maxHeartbeats 6400000 in
theorem event_any (K : Nat → Prop) (g : Nat) (c : Cst) (s : St) (e : Ev) (ad da : U32) (pr : Int) (w : World) (h : RunAt w K g c s)
    (hl1 : s.ev.length ≤ 1000) (hl2 : s.addr.length ≤ 1000) (hl3 : s.data.length ≤ 1000) (hl4 : s.ctrl.length ≤ 1000) (hl5 : s.pair.length ≤ 1000) :
    Calls Try.prog 47 #[.pointer (some ⟨g, 0, none⟩), .agg e.arr, .int .u32 (ad.toNat : Int), .int .u32 (da.toNat : Int), .int .i64 pr] w fun e' w' => e' = .returned (.tuple #[]) ∧ RunAt w' K g c (s.push e ad da pr) ∧ Kp K w w' := by
  obtain ⟨iE, hiE, hzE0, hzE1, hzE2⟩ := info_parts info_event
  obtain ⟨iU, hiU, hzU0, hzU1, hzU2⟩ := info_parts info_u32
  obtain ⟨iI, hiI, hzI0, hzI1, hzI2⟩ := info_parts info_int
  obtain ⟨E, A, D, C, P, hB, hR⟩ := h
  have hKp0 := Kp.refl K w
  have hKp := hKp0.alloc (fun k hk => (hR.kg k hk).2) (.cells e.arr 47)
  have hB1 := hB.alloc (.cells e.arr 47)
  have hR1 := hR.alloc (.cells e.arr 47)
  have hx := Blk.new w e.arr 47
  have hgl := hR.gl
  have hneg : some g ≠ E.ownBlock := fun e => hR.offg 0 _ rfl e.symm
  have hcut0 : Hid True := trivial
  unfold Ev.arr at *
  go_enter Try.func47, Try.ntmps47
  go_upto_region 1 with fail
  go_cut [10] from 10 to 21 (fun t wx => t = .pointer (some ⟨g, 0, none⟩) ∧ ∃ E1, Blk wx g (rarr E1 A D C P c { s with ev := s.ev ++ [e] }) 57 ∧ Rws wx K g (rrows E1 A D C P { s with ev := s.ev ++ [e] }) ∧ Kp K w wx)
  case first =>
    have g0 := hB1.cell 0 E rfl
    have f0 := hB1.frozen 0
    have x0 := hx.cell 0 (.int .i64 e.thread) rfl
    have x1 := hx.cell 1 (.int .i64 e.kind) rfl
    have x2 := hx.cell 2 (.int .i64 e.loc) rfl
    have x3 := hx.cell 3 (.int .i64 e.val) rfl
    have x4 := hx.cell 4 (.bool e.acq) rfl
    have x5 := hx.cell 5 (.bool e.rel) rfl
    have x6 := hx.cell 6 (.bool e.excl) rfl
    go_wp2_with fail
    go_region_law ((refine step_append_lies _ (by rfl) _ _ _ (by rfl) 0 47 iE _ 7 40 Try.underlying27 hiE hzE0 hzE1 hzE2 rfl (by decide) E s.ev.length (ecells s.ev) (by rfl) (by exact ((hR1.drew.alloc _).own 0 _ rfl)) ⟨w.heap.size + 1, 0, none⟩ 1 1 (ecells [e]) (by rfl) (by rfl) (by rw [ecells_one_ev]; exact World.news_of_block (blk_at _ _ (by simp) _ _)) (ecells_one _) (by decide) (by unfold maxLen; omega) (by omega) (Nat.zero_le _) (w.heap.size + 1 + 1) (by simp) ?_; intro g1 c1 w2 hown2 hgrow2 hat2 hlt2; have hc2 := hgrow2.cell (cell_alloc g0 _) hneg; have hfz2 := (hgrow2.frozen_far ⟨g, 0, none⟩ (by simp; omega) hneg).trans (frozen_alloc g0 f0 _)))
    all_goals
      go_wp2_with fail
      go_meet
      case rel =>
        have hA := grown_stored (r' := ⟨47, 7, s.ev.length + 1, _, ecells (s.ev ++ [e])⟩) (hR1.drew.alloc _) (Blk.alloc (w := World.drew _) hB1 _) 0 rfl hgrow2 rfl (by rw [ecells_append]; exact hown2) (by rcases hat2 with h | h; exact .inl h; exact .inr (by simpa using h)) rfl
        refine ⟨rfl, _, hA.1, ?_, (hKp.drew.alloc (fun k hk => (hR1.kg k hk).2) _).trans hA.2.2⟩
        have := hA.2.1
        simpa [rrows] using this
  case rest =>
    obtain ⟨rfl, E1, hB2, hR2, hK2⟩ := hcut
    clear hKp0 hKp hB1 hR1 hx hneg hgl hB hR
    go_upto_region 2 with fail
    go_cut [22] from 22 to 33 (fun t wx => t = .pointer (some ⟨g, 0, none⟩) ∧ ∃ A1, Blk wx g (rarr E1 A1 D C P c { s with ev := s.ev ++ [e], addr := s.addr ++ [ad] }) 57 ∧ Rws wx K g (rrows E1 A1 D C P { s with ev := s.ev ++ [e], addr := s.addr ++ [ad] }) ∧ Kp K w wx)
    case first =>
      have g0 := hB2.cell 1 A rfl
      have f0 := hB2.frozen 1
      have hgl := hB2.lt
      have hne : some g ≠ A.ownBlock := fun e => hR2.offg 1 _ rfl e.symm
      go_wp2_with (at_builtin; refine wpList_append_lies _ rfl _ _ 28 rfl 0 31 iU _ 1 4 Try.underlying28 hiU hzU0 hzU1 hzU2 rfl (by decide) A s.addr.length (us s.addr) rfl (by exact (hR2.alloc _).own 1 _ rfl) ⟨wc.heap.size, 0, none⟩ 1 1 (us [ad]) rfl rfl (World.news_of_block (heap_alloc_new _ _)) (us_one _) (by decide) (by unfold maxLen; omega) (by omega) (Nat.zero_le _) _ rfl ?_; intro g1 c1 w2 hown2 hgrow2 hat2 hlt2; have hc2 := hgrow2.cell (cell_alloc g0 _) hne; have hfz2 := (hgrow2.frozen_far ⟨g, 1, none⟩ (by simp; omega) hne).trans (frozen_alloc g0 f0 _))
      go_meet
      case rel =>
        have hA := grown_stored (r' := ⟨31, 1, s.addr.length + 1, _, us (s.addr ++ [ad])⟩) (hR2.alloc _) (hB2.alloc _) 1 rfl hgrow2 rfl (by rw [us, List.map_append]; exact hown2) hat2 rfl
        refine ⟨rfl, _, hA.1, ?_, hK2.trans ((Kp.of_below ((Below.refl _ _).alloc (Nat.le_refl _) _) (fun k hk => (hR2.kg k hk).2)).trans hA.2.2)⟩
        have := hA.2.1
        simpa [rrows] using this
    case rest =>
      obtain ⟨rfl, A1, hB3, hR3, hK3⟩ := hcut
      clear hK2 hB2 hR2
      go_upto_region 3 with fail
      go_cut [34] from 34 to 45 (fun t wx => t = .pointer (some ⟨g, 0, none⟩) ∧ ∃ D1, Blk wx g (rarr E1 A1 D1 C P c { s with ev := s.ev ++ [e], addr := s.addr ++ [ad], data := s.data ++ [da] }) 57 ∧ Rws wx K g (rrows E1 A1 D1 C P { s with ev := s.ev ++ [e], addr := s.addr ++ [ad], data := s.data ++ [da] }) ∧ Kp K w wx)
      case first =>
        have g0 := hB3.cell 2 D rfl
        have f0 := hB3.frozen 2
        have hgl := hB3.lt
        have hne : some g ≠ D.ownBlock := fun e => hR3.offg 2 _ rfl e.symm
        go_wp2_with (at_builtin; refine wpList_append_lies _ rfl _ _ 28 rfl 0 31 iU _ 1 4 Try.underlying28 hiU hzU0 hzU1 hzU2 rfl (by decide) D s.data.length (us s.data) rfl (by exact (hR3.alloc _).own 2 _ rfl) ⟨wc.heap.size, 0, none⟩ 1 1 (us [da]) rfl rfl (World.news_of_block (heap_alloc_new _ _)) (us_one _) (by decide) (by unfold maxLen; omega) (by omega) (Nat.zero_le _) _ rfl ?_; intro g1 c1 w2 hown2 hgrow2 hat2 hlt2; have hc2 := hgrow2.cell (cell_alloc g0 _) hne; have hfz2 := (hgrow2.frozen_far ⟨g, 2, none⟩ (by simp; omega) hne).trans (frozen_alloc g0 f0 _))
        go_meet
        case rel =>
          have hA := grown_stored (r' := ⟨31, 1, s.data.length + 1, _, us (s.data ++ [da])⟩) (hR3.alloc _) (hB3.alloc _) 2 rfl hgrow2 rfl (by rw [us, List.map_append]; exact hown2) hat2 rfl
          refine ⟨rfl, _, hA.1, ?_, hK3.trans ((Kp.of_below ((Below.refl _ _).alloc (Nat.le_refl _) _) (fun k hk => (hR3.kg k hk).2)).trans hA.2.2)⟩
          have := hA.2.1
          simpa [rrows] using this
      case rest =>
        obtain ⟨rfl, D1, hB4, hR4, hK4⟩ := hcut
        clear hK3 hB3 hR3
        go_upto_region 4 with fail
        go_cut [46] from 46 to 60 (fun t wx => t = .pointer (some ⟨g, 0, none⟩) ∧ ∃ C1, Blk wx g (rarr E1 A1 D1 C1 P c { s with ev := s.ev ++ [e], addr := s.addr ++ [ad], data := s.data ++ [da], ctrl := s.ctrl ++ [s.cur] }) 57 ∧ Rws wx K g (rrows E1 A1 D1 C1 P { s with ev := s.ev ++ [e], addr := s.addr ++ [ad], data := s.data ++ [da], ctrl := s.ctrl ++ [s.cur] }) ∧ Kp K w wx)
        case first =>
          have g0 := hB4.cell 3 C rfl
          have g19 := hB4.cell 19 (.int .u32 (s.cur.toNat : Int)) rfl
          have f0 := hB4.frozen 3
          have hgl := hB4.lt
          have hne : some g ≠ C.ownBlock := fun e => hR4.offg 3 _ rfl e.symm
          go_wp2_with fail
          go_region_law ((refine step_append_lies _ (by rfl) _ _ _ (by rfl) 0 31 iU _ 1 4 Try.underlying28 hiU hzU0 hzU1 hzU2 rfl (by decide) C s.ctrl.length (us s.ctrl) (by rfl) (by exact ((hR4.drew.alloc _).own 3 _ rfl)) ⟨wc.heap.size, 0, none⟩ 1 1 (us [s.cur]) (by rfl) (by rfl) (World.news_of_block (blk_at _ _ (by simp) _ _)) (us_one _) (by decide) (by unfold maxLen; omega) (by omega) (Nat.zero_le _) (wc.heap.size + 1) (by simp) ?_; intro g1 c1 w2 hown2 hgrow2 hat2 hlt2; have hc2 := hgrow2.cell (cell_alloc g0 _) hne; have hfz2 := (hgrow2.frozen_far ⟨g, 3, none⟩ (by simp; omega) hne).trans (frozen_alloc g0 f0 _)))
          all_goals
            go_wp2_with fail
            go_meet
            case rel =>
              have hA := grown_stored (r' := ⟨31, 1, s.ctrl.length + 1, _, us (s.ctrl ++ [s.cur])⟩) (hR4.drew.alloc _) (Blk.alloc (w := World.drew _) hB4 _) 3 rfl hgrow2 rfl (by rw [us, List.map_append]; exact hown2) (by rcases hat2 with h | h; exact .inl h; exact .inr (by simpa using h)) rfl
              refine ⟨rfl, _, hA.1, ?_, (hK4.drew.alloc (fun k hk => (hR4.kg k hk).2) _).trans hA.2.2⟩
              have := hA.2.1
              simpa [rrows] using this
        case rest =>
          obtain ⟨rfl, C1, hB5, hR5, hK5⟩ := hcut
          clear hK4 hB4 hR4
          have g0 := hB5.cell 4 P rfl
          have f0 := hB5.frozen 4
          have hgl := hB5.lt
          have hne : some g ≠ P.ownBlock := fun e => hR5.offg 4 _ rfl e.symm
          go_wp2_with (at_builtin; refine wpList_append_lies _ rfl _ _ 29 rfl 0 3 iI _ 1 8 Try.underlying29 hiI hzI0 hzI1 hzI2 rfl (by decide) P s.pair.length (is s.pair) rfl (by exact (hR5.alloc _).own 4 _ rfl) ⟨wc.heap.size, 0, none⟩ 1 1 (is [pr]) rfl rfl (World.news_of_block (heap_alloc_new _ _)) (is_one _) (by decide) (by unfold maxLen; omega) (by omega) (Nat.zero_le _) _ rfl ?_; intro g1 c1 w2 hown2 hgrow2 hat2 hlt2; have hc2 := hgrow2.cell (cell_alloc g0 _) hne; have hfz2 := (hgrow2.frozen_far ⟨g, 4, none⟩ (by simp; omega) hne).trans (frozen_alloc g0 f0 _))
          have hA := grown_stored (r' := ⟨3, 1, s.pair.length + 1, _, is (s.pair ++ [pr])⟩) (hR5.alloc _) (hB5.alloc _) 4 rfl hgrow2 rfl (by rw [is, List.map_append]; exact hown2) hat2 rfl
          refine bodyPost_end (v := .tuple #[]) (by simp [results, Try.results47]) rfl ⟨rfl, ⟨E1, A1, D1, C1, _, hA.1, ?_⟩, hK5.trans ((Kp.of_below ((Below.refl _ _).alloc (Nat.le_refl _) _) (fun k hk => (hR5.kg k hk).2)).trans hA.2.2)⟩
          have := hA.2.1
          simpa [rrows, St.push] using this

end Go.Proofs.Ytgefngjfpodiiaa
