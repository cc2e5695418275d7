/-
  A thread that runs: its state, and how it lies in memory.
-/
import Derived.Test.YtgefngjfpodiiaaRegs2
import Derived.Deep.RegionHeld3
import Derived.Deep.DrawnRows
namespace Go.Proofs.Ytgefngjfpodiiaa
open Go.RowKit
set_option linter.unusedVariables false

/-- A row of cells in memory of the call's own. -/
structure Row where
  t : TypeId
  size : Nat
  n : Nat
  v : Value
  xs : List Value

/-- Rows that lie apart from one another, from the block g, and from the blocks that are kept. -/
structure Rws (w : World) (K : Nat → Prop) (g : Nat) (rows : List Row) : Prop where
  own : ∀ (i : Nat) (r : Row), rows[i]? = some r → w.ownsRow 0 r.t r.size r.v r.n r.xs
  ap : ∀ (i j : Nat) (r q : Row), i ≠ j → rows[i]? = some r → rows[j]? = some q → r.v.ownBlock = none ∨ r.v.ownBlock ≠ q.v.ownBlock
  offg : ∀ (i : Nat) (r : Row), rows[i]? = some r → r.v.ownBlock ≠ some g
  off : ∀ (i : Nat) (r : Row) (k : Nat), rows[i]? = some r → K k → r.v.ownBlock ≠ some k
  kg : ∀ k, K k → k ≠ g ∧ k < w.heap.size
  gl : g < w.heap.size

/-- The kept blocks are as they were. -/
structure Kp (K : Nat → Prop) (w w' : World) : Prop where
  os : w'.os = w.os
  tape : w'.tape = w.tape
  output : w'.output = w.output
  size : w.heap.size ≤ w'.heap.size
  block : ∀ k, K k → w'.heap[k]? = w.heap[k]?

theorem Kp.refl (K : Nat → Prop) (w : World) : Kp K w w := ⟨rfl, rfl, rfl, Nat.le_refl _, fun _ _ => rfl⟩
theorem Kp.trans {K : Nat → Prop} {a b c : World} (h : Kp K a b) (k : Kp K b c) : Kp K a c := ⟨k.os.trans h.os, k.tape.trans h.tape, k.output.trans h.output, Nat.le_trans h.size k.size, fun j hj => (k.block j hj).trans (h.block j hj)⟩
theorem Kp.mono {K K' : Nat → Prop} {a b : World} (h : Kp K a b) (hk : ∀ j, K' j → K j) : Kp K' a b := ⟨h.os, h.tape, h.output, h.size, fun j hj => h.block j (hk j hj)⟩
theorem Kp.below {K : Nat → Prop} {a b : World} {B : Nat} (h : Kp K a b) (hB : ∀ k, k < B → K k) : Below B a b := ⟨h.os, h.tape, h.output, h.size, fun k hk => h.block k (hB k hk)⟩
theorem Kp.of_below {K : Nat → Prop} {a b : World} (h : Below a.heap.size a b) (hK : ∀ k, K k → k < a.heap.size) : Kp K a b := ⟨h.os, h.tape, h.output, h.size, fun k hk => h.block k (hK k hk)⟩
theorem Kp.grown {K : Nat → Prop} {a b : World} {row : Option Nat} (h : a.grownBy b row) (hK : ∀ k, K k → k < a.heap.size ∧ row ≠ some k) : Kp K a b :=
  ⟨h.os, h.tape, h.output, h.size, fun k hk => h.block k (hK k hk).1 (fun e => (hK k hk).2 e.symm)⟩
theorem Kp.drew {K : Nat → Prop} {a b : World} (h : Kp K a b) : Kp K a b.drew := ⟨h.os, h.tape, h.output, h.size, h.block⟩
theorem Kp.set {K : Nat → Prop} {a b : World} (h : Kp K a b) {g : Nat} (hg : ¬K g) (i : Nat) (v : Value) : Kp K a (b.setCell ⟨g, i, none⟩ v) :=
  ⟨h.os, h.tape, h.output, by simpa using h.size, fun k hk => (heap_setCell_other b ⟨g, i, none⟩ k v (fun e => hg (show K g from (show k = g from e) ▸ hk))).trans (h.block k hk)⟩
theorem Kp.alloc {K : Nat → Prop} {a b : World} (h : Kp K a b) (hK : ∀ k, K k → k < b.heap.size) (o : Obj) : Kp K a (b.alloc o) := h.trans (Kp.of_below ((Below.refl _ _).alloc (Nat.le_refl _) o) hK)
theorem Kp.blk {K : Nat → Prop} {a b : World} (h : Kp K a b) {k : Nat} (hk : K k) {cs : Array Value} {t : TypeId} (hB : Blk a k cs t) : Blk b k cs t := (h.block k hk).trans hB

theorem Rws.drew {w : World} {K : Nat → Prop} {g : Nat} {rows : List Row} (h : Rws w K g rows) : Rws w.drew K g rows := ⟨h.own, h.ap, h.offg, h.off, h.kg, h.gl⟩
theorem Rws.later {w w' : World} {K : Nat → Prop} {g : Nat} {rows : List Row} (h : Rws w K g rows) (hb : Below w.heap.size w w') : Rws w' K g rows :=
  ⟨fun i r hi => ownsRow_below (h.own i r hi) hb, h.ap, h.offg, h.off, fun k hk => ⟨(h.kg k hk).1, Nat.lt_of_lt_of_le (h.kg k hk).2 hb.size⟩, Nat.lt_of_lt_of_le h.gl hb.size⟩
theorem Rws.alloc {w : World} {K : Nat → Prop} {g : Nat} {rows : List Row} (h : Rws w K g rows) (o : Obj) : Rws (w.alloc o) K g rows := h.later ((Below.refl _ _).alloc (Nat.le_refl _) o)
theorem Rws.lt {w : World} {K : Nat → Prop} {g : Nat} {rows : List Row} (h : Rws w K g rows) {i : Nat} {r : Row} (hi : rows[i]? = some r) {k : Nat} (hk : r.v.ownBlock = some k) : k < w.heap.size := ((h.own i r hi).lt k hk).2
theorem Rws.set {w : World} {K : Nat → Prop} {g : Nat} {rows : List Row} (h : Rws w K g rows) (i : Nat) (v : Value) : Rws (w.setCell ⟨g, i, none⟩ v) K g rows :=
  ⟨fun j r hj => (h.own j r hj).kept (row := some g) ⟨rfl, rfl, rfl, by simp, fun k _ hne => heap_setCell_other w ⟨g, i, none⟩ k v (fun e => hne (by rw [e]))⟩ (.inr (h.offg j r hj)), h.ap, h.offg, h.off,
    fun k hk => ⟨(h.kg k hk).1, by simpa using (h.kg k hk).2⟩, by simpa using h.gl⟩
theorem Rws.less {w : World} {K K' : Nat → Prop} {g : Nat} {rows : List Row} (h : Rws w K g rows) (hk : ∀ j, K' j → K j) : Rws w K' g rows := ⟨h.own, h.ap, h.offg, fun i r k hi hK => h.off i r k hi (hk k hK), fun k hK => h.kg k (hk k hK), h.gl⟩
/-- One block more is kept: the newest. -/
theorem Rws.also {w : World} {K : Nat → Prop} {g : Nat} {rows : List Row} (h : Rws w K g rows) (o : Obj) : Rws (w.alloc o) (fun k => K k ∨ k = w.heap.size) g rows := by
  have h' := h.alloc o
  refine ⟨h'.own, h'.ap, h'.offg, fun i r k hi hk => ?_, fun k hk => ?_, h'.gl⟩
  · rcases hk with hk | rfl
    · exact h'.off i r k hi hk
    · intro e
      exact Nat.lt_irrefl _ (h.lt hi e)
  · rcases hk with hk | rfl
    · exact h'.kg k hk
    · have := h.gl
      exact ⟨by omega, by simp⟩
/-- One row has grown. -/
theorem Rws.grow {w w' : World} {K : Nat → Prop} {g : Nat} {rows : List Row} (h : Rws w K g rows) (i : Nat) {r r' : Row} (hi : rows[i]? = some r) {g1 n1 c1 : Nat} (hg : w.grownBy w' r.v.ownBlock)
    (hv : r'.v = .slice (some ⟨g1, 0, none⟩) n1 c1) (hown : w'.ownsRow 0 r'.t r'.size r'.v r'.n r'.xs) (hat : r.v.ownBlock = some g1 ∨ g1 = w.heap.size) : Rws w' K g (rows.set i r') := by
  have hil : i < rows.length := (List.getElem?_eq_some_iff.1 hi).1
  have hget : ∀ (j : Nat) (q : Row), (rows.set i r')[j]? = some q → (j = i ∧ q = r') ∨ (j ≠ i ∧ rows[j]? = some q) := by
    intro j q hq
    by_cases hj : j = i
    · subst hj
      rw [List.getElem?_set_self hil] at hq
      exact .inl ⟨rfl, by simpa using hq.symm⟩
    · rw [List.getElem?_set_ne (fun e => hj e.symm)] at hq
      exact .inr ⟨hj, hq⟩
  have hob : r'.v.ownBlock = some g1 := by rw [hv]; rfl
  refine ⟨?_, ?_, ?_, ?_, fun k hk => ⟨(h.kg k hk).1, Nat.lt_of_lt_of_le (h.kg k hk).2 hg.size⟩, Nat.lt_of_lt_of_le h.gl hg.size⟩
  · intro j q hq
    rcases hget j q hq with ⟨rfl, rfl⟩ | ⟨hne, hq⟩
    · exact hown
    · exact (h.own j q hq).kept hg (h.ap j i q r hne hq hi)
  · intro j k q p hjk hq hp
    rcases hget j q hq with ⟨rfl, rfl⟩ | ⟨hne, hq'⟩
    · rcases hget k p hp with ⟨rfl, rfl⟩ | ⟨hne', hp⟩
      · exact absurd rfl hjk
      · right; rw [hob]; intro e
        have hlt := h.lt hp e.symm
        rcases hat with hat | hat
        · rcases h.ap k j p r hne' hp hi with h1 | h1
          · rw [h1] at e; cases e
          · exact h1 (e.symm.trans hat.symm)
        · omega
    · rcases hget k p hp with ⟨rfl, rfl⟩ | ⟨hne', hp⟩
      · rcases Option.eq_none_or_eq_some q.v.ownBlock with h0 | ⟨b, h0⟩
        · exact .inl h0
        · right; rw [hob, h0]; intro e
          have hb : b = g1 := by simpa using e
          subst hb
          rcases hat with hat | hat
          · rcases h.ap j k q r hne hq' hi with h1 | h1
            · rw [h1] at h0; cases h0
            · exact h1 (h0.trans hat.symm)
          · exact Nat.lt_irrefl _ (hat ▸ h.lt hq' h0)
      · exact h.ap j k q p hjk hq' hp
  · intro j q hq
    rcases hget j q hq with ⟨rfl, rfl⟩ | ⟨hne, hq⟩
    · rw [hob]; intro e
      have hb : g1 = g := by simpa using e
      subst hb
      rcases hat with hat | hat
      · exact h.offg j r hi hat
      · have := h.gl; omega
    · exact h.offg j q hq
  · intro j q k hq hk
    rcases hget j q hq with ⟨rfl, rfl⟩ | ⟨hne, hq⟩
    · rw [hob]; intro e
      have hb : g1 = k := by simpa using e
      subst hb
      rcases hat with hat | hat
      · exact h.off j r g1 hi hk hat
      · have := (h.kg g1 hk).2; omega
    · exact h.off j q k hq hk

/-- What a thread has done, and where it is. -/
structure St where
  ev : List Ev
  addr : List U32
  data : List U32
  ctrl : List U32
  pair : List Int
  f : Fl
  vals : Nat
  lucks : Nat
  more : Int
  cur : U32
  last : Int
  skip : Int
def St.push (s : St) (e : Ev) (addr data : U32) (pair : Int) : St := { s with ev := s.ev ++ [e], addr := s.addr ++ [addr], data := s.data ++ [data], ctrl := s.ctrl ++ [s.cur], pair := s.pair ++ [pair] }

/-- What does not change in a run. -/
structure Cst where
  locs : Int
  va : Value
  la : Value

def rarr (E A D C P : Value) (c : Cst) (s : St) : Array Value :=
  #[E, A, D, C, P, .int .i64 s.f.v0, .int .i64 s.f.v1, .int .i64 s.f.v2, .int .i64 s.f.v3, .int .u32 (s.f.p0.toNat : Int), .int .u32 (s.f.p1.toNat : Int), .int .u32 (s.f.p2.toNat : Int), .int .u32 (s.f.p3.toNat : Int),
    .int .i64 (s.vals : Int), .int .i64 (s.lucks : Int), .int .i64 s.more, .int .i64 c.locs, c.va, c.la, .int .u32 (s.cur.toNat : Int), .int .i64 s.last, .int .i64 s.skip]
def rrows (E A D C P : Value) (s : St) : List Row :=
  [⟨47, 7, s.ev.length, E, ecells s.ev⟩, ⟨31, 1, s.addr.length, A, us s.addr⟩, ⟨31, 1, s.data.length, D, us s.data⟩, ⟨31, 1, s.ctrl.length, C, us s.ctrl⟩, ⟨3, 1, s.pair.length, P, is s.pair⟩]

/-- A thread's state lies at the block g. -/
def RunAt (w : World) (K : Nat → Prop) (g : Nat) (c : Cst) (s : St) : Prop :=
  ∃ E A D C P, Blk w g (rarr E A D C P c s) 57 ∧ Rws w K g (rrows E A D C P s)

theorem RunAt.later {w w' : World} {K : Nat → Prop} {g : Nat} {c : Cst} {s : St} (h : RunAt w K g c s) (hb : Below w.heap.size w w') : RunAt w' K g c s := by
  obtain ⟨E, A, D, C, P, h1, h2⟩ := h
  exact ⟨E, A, D, C, P, h1.later hb, h2.later hb⟩
theorem RunAt.less {w : World} {K K' : Nat → Prop} {g : Nat} {c : Cst} {s : St} (h : RunAt w K g c s) (hk : ∀ j, K' j → K j) : RunAt w K' g c s := by
  obtain ⟨E, A, D, C, P, h1, h2⟩ := h
  exact ⟨E, A, D, C, P, h1, h2.less hk⟩
theorem RunAt.also {w : World} {K : Nat → Prop} {g : Nat} {c : Cst} {s : St} (h : RunAt w K g c s) (o : Obj) : RunAt (w.alloc o) (fun k => K k ∨ k = w.heap.size) g c s := by
  obtain ⟨E, A, D, C, P, h1, h2⟩ := h
  exact ⟨E, A, D, C, P, h1.alloc o, h2.also o⟩
theorem RunAt.drew {w : World} {K : Nat → Prop} {g : Nat} {c : Cst} {s : St} (h : RunAt w K g c s) : RunAt w.drew K g c s := by
  obtain ⟨E, A, D, C, P, h1, h2⟩ := h
  exact ⟨E, A, D, C, P, h1, h2.drew⟩
theorem RunAt.kg {w : World} {K : Nat → Prop} {g : Nat} {c : Cst} {s : St} (h : RunAt w K g c s) : ∀ k, K k → k ≠ g ∧ k < w.heap.size := by
  obtain ⟨E, A, D, C, P, h1, h2⟩ := h
  exact h2.kg
theorem RunAt.nk {w : World} {K : Nat → Prop} {g : Nat} {c : Cst} {s : St} (h : RunAt w K g c s) : ¬K g := fun hk => (h.kg g hk).1 rfl

end Go.Proofs.Ytgefngjfpodiiaa
