/-
  Words for memory: cells that lie at an address ('Rd'), lists of numbers as cells, and what calls hand back in memory of their own.
-/
import Derived.WalkKit
import Derived.WalkSpells
import Derived.WalkLawsBesides
import Derived.KernelRfl
import Derived.StillTailTactics
import Derived.Lib.Hide
import Derived.Deep.AppendLies
import Derived.Deep.QuietTactic
import Derived.BigQuiet
namespace Go.Proofs.Ytgefngjfpodiiaa
open Go.RowKit

/-- The cells xs lie at the address A, in a block below B. -/
def Rd (w : World) (B : Nat) (A : Option Addr) (xs : List Value) : Prop :=
  xs = [] ∨ ∃ b off, A = some ⟨b, off, none⟩ ∧ b < B ∧ ∀ j u, xs[j]? = some u → w.cell? ⟨b, off + j, none⟩ = some u

theorem Rd.below {w w' : World} {B : Nat} {A : Option Addr} {xs : List Value} (h : Rd w B A xs) (hb : Below B w w') : Rd w' B A xs := by
  rcases h with h | ⟨b, off, hA, hB, hc⟩
  · exact .inl h
  · exact .inr ⟨b, off, hA, hB, fun j u hu => (hb.cell (p := ⟨b, off + j, none⟩) hB).trans (hc j u hu)⟩
theorem Rd.mono {w : World} {B B' : Nat} {A : Option Addr} {xs : List Value} (h : Rd w B A xs) (hB : B ≤ B') : Rd w B' A xs := by
  rcases h with h | ⟨b, off, hA, hb, hc⟩
  · exact .inl h
  · exact .inr ⟨b, off, hA, by omega, hc⟩
/-- What is read stays readable, below the new world's end. -/
theorem Rd.on {w w' : World} {B : Nat} {A : Option Addr} {xs : List Value} (h : Rd w B A xs) (hb : Below B w w') (hB : B ≤ w.heap.size) : Rd w' w'.heap.size A xs :=
  (h.below hb).mono (Nat.le_trans hB hb.size)
theorem Rd.all {w w' : World} {A : Option Addr} {xs : List Value} (h : Rd w w.heap.size A xs) (hb : Below w.heap.size w w') : Rd w' w'.heap.size A xs := h.on hb (Nat.le_refl _)
theorem Rd.nil_ {w : World} {B : Nat} {A : Option Addr} : Rd w B A [] := .inl rfl
theorem Rd.of_own {w : World} {base : Nat} {e : TypeId} {size : Nat} {A : Option Addr} {n c : Nat} {xs : List Value} (h : w.ownsRow base e size (.slice A n c) n xs) : Rd w w.heap.size A xs := by
  rcases Nat.eq_zero_or_pos n with h0 | h0
  · have hl := h.1
    rw [h0, Nat.zero_mul] at hl
    exact .inl (List.eq_nil_of_length_eq_zero hl)
  · obtain ⟨g, cap, hv, _, hlt⟩ := h.form h0
    have hA : A = some ⟨g, 0, none⟩ := by injection hv
    subst hA
    refine .inr ⟨g, 0, rfl, hlt, fun j u hu => ?_⟩
    have := h.cells (g := g) rfl j u hu
    rwa [Addr.add_lit] at this

theorem Rd.new (w : World) (cs : Array Value) (t : TypeId) : Rd (w.alloc (.cells cs t)) (w.heap.size + 1) (some ⟨w.heap.size, 0, none⟩) cs.toList :=
  .inr ⟨w.heap.size, 0, rfl, by omega, fun j u hu => by
    rw [World.cell?_alloc_at _ _ _ _ rfl, Nat.zero_add]; simpa using hu⟩
theorem Rd.alloc {w : World} {B : Nat} {A : Option Addr} {xs : List Value} (h : Rd w B A xs) (hB : B ≤ w.heap.size) (o : Obj) : Rd (w.alloc o) B A xs := h.below ((Below.refl _ _).alloc hB o)
/-- The same, at the new world's end. -/
theorem Rd.next {w : World} {A : Option Addr} {xs : List Value} (h : Rd w w.heap.size A xs) (o : Obj) : Rd (w.alloc o) (w.alloc o).heap.size A xs := (h.alloc (Nat.le_refl _) o).mono (by simp)
theorem Rd.new_ (w : World) (cs : Array Value) (t : TypeId) : Rd (w.alloc (.cells cs t)) (w.alloc (.cells cs t)).heap.size (some ⟨w.heap.size, 0, none⟩) cs.toList := (Rd.new w cs t).mono (by simp)
theorem Rd.new_at (w : World) (cs : Array Value) (t : TypeId) (n : Nat) (h : n = w.heap.size) : Rd (w.alloc (.cells cs t)) (w.alloc (.cells cs t)).heap.size (some ⟨n, 0, none⟩) cs.toList := by subst h; exact Rd.new_ w cs t
theorem below_alloc {B : Nat} {a w : World} (h : Below B a w) (o : Obj) (hB : B ≤ a.heap.size) : Below B a (w.alloc o) := h.alloc (Nat.le_trans hB h.size) o

theorem ownsRow_less {w : World} {base base' : Nat} {e : TypeId} {size : Nat} {v : Value} {n : Nat} {xs : List Value} (h : w.ownsRow base e size v n xs) (hb : base' ≤ base) : w.ownsRow base' e size v n xs := by
  obtain ⟨h1, h2⟩ := h
  refine ⟨h1, ?_⟩
  rcases h2 with h2 | ⟨g, cap, cur, hv, hg, r⟩
  · exact .inl h2
  · exact .inr ⟨g, cap, cur, hv, by omega, r⟩
theorem ownsRow_below {w w' : World} {base : Nat} {e : TypeId} {size : Nat} {v : Value} {n : Nat} {xs : List Value} (h : w.ownsRow base e size v n xs) (hb : Below w.heap.size w w') : w'.ownsRow base e size v n xs := by
  obtain ⟨h1, h2⟩ := h
  refine ⟨h1, ?_⟩
  rcases h2 with h2 | ⟨g, cap, cur, hv, hg, hh, r⟩
  · exact .inl h2
  · refine .inr ⟨g, cap, cur, hv, hg, ?_, r⟩
    rw [hb.block g (Array.getElem?_eq_some_iff.1 hh).1]; exact hh
theorem ownsRow_drewN {w : World} {base : Nat} {e : TypeId} {size : Nat} {v : Value} {n : Nat} {xs : List Value} (h : w.ownsRow base e size v n xs) (k : Nat) : (w.drewN k).ownsRow base e size v n xs := h
theorem below_then {B : Nat} {a b c : World} (h : Below B a b) (k : Below b.heap.size b c) (hB : B ≤ b.heap.size) : Below B a c := h.trans (k.mono hB)
theorem below_next {a b c : World} (h : Below a.heap.size a b) (k : Below b.heap.size b c) : Below a.heap.size a c := h.trans (k.mono h.size)


/-- A contract that leaves the world alone, the other way round. -/
theorem same_flip {P : Program} {f : FuncId} {args : Array Value} {w : World} {v : Value} (h : Calls P f args w fun e w' => e = .returned v ∧ w = w') : Calls P f args w fun e w' => e = .returned v ∧ w' = w :=
  h.mono fun _ _ ⟨a, b⟩ => ⟨a, b.symm⟩
theorem quiet_left {P : Program} {f : FuncId} {args : Array Value} {w : World} {n : Nat} {v : Value}
    (h : Calls P f args (w.drewN n) fun e w' => e = .returned v ∧ w.drewN n = w') : Calls P f args (w.drewN n) fun e w'' => e = .returned v ∧ ∃ m, w'' = w.drewN m :=
  h.mono fun _ _ ⟨he, hm⟩ => ⟨he, n, hm.symm⟩

/-- A region that draws its order, whose operations read but for the last ones: the text's order, in the world behind the draw. -/
theorem region_tail {P : Program} {id : Nat} {Q : Exit → Act → World → Prop} {a : Act} {w : World} {l : List Oper} (n : Nat) (hm : P.follows .mixedOrders = true) (hB : Region.lexTailB .any l.toArray n = true)
    (h : wpStill P l.toArray w.drew (fun a' => wpList P l.toArray Q (l.drop n) a' w.drew) (l.take n) a) : (Code.region id l.toArray true).wp P Q a w := wp_region_still_tail n hm hB h

/-- A number of 32 bits. -/
abbrev U32 := BitVec 32
def us (l : List U32) : List Value := l.map fun x => .int .u32 (x.toNat : Int)
def is (l : List Int) : List Value := l.map fun x => .int .i64 x
@[simp] theorem us_length (l : List U32) : (us l).length = l.length := by simp [us]
@[simp] theorem is_length (l : List Int) : (is l).length = l.length := by simp [is]
theorem us_get (l : List U32) (i : Nat) (h : i < l.length) : (us l)[i]? = some (.int .u32 ((l[i]).toNat : Int)) := by simp [us, h]
theorem is_get (l : List Int) (i : Nat) (h : i < l.length) : (is l)[i]? = some (.int .i64 l[i]) := by simp [is, h]
theorem us_one (l : List U32) : ∀ u ∈ us l, u.oneCell' = true := by
  intro u hu; obtain ⟨_, _, rfl⟩ := List.mem_map.1 hu; rfl
theorem is_one (l : List Int) : ∀ u ∈ is l, u.oneCell' = true := by
  intro u hu; obtain ⟨_, _, rfl⟩ := List.mem_map.1 hu; rfl
theorem us_set (l : List U32) (k : Nat) (x : U32) : (us l).set k (.int .u32 (x.toNat : Int)) = us (l.set k x) := by
  unfold us; rw [← List.map_set (f := fun x : U32 => Value.int .u32 (x.toNat : Int))]
theorem is_set (l : List Int) (k : Nat) (x : Int) : (is l).set k (.int .i64 x) = is (l.set k x) := by
  unfold is; rw [← List.map_set (f := fun x : Int => Value.int .i64 x)]

theorem Rd.at_us {w : World} {B : Nat} {A : Option Addr} {l : List U32} (h : Rd w B A (us l)) {i : Nat} (hi : i < l.length) :
    ∃ b off, A = some ⟨b, off, none⟩ ∧ b < B ∧ ∀ j (hj : j < l.length), w.cell? ⟨b, off + j, none⟩ = some (.int .u32 ((l[j]).toNat : Int)) := by
  rcases h with h | ⟨b, off, hA, hB, hc⟩
  · have : (us l).length = 0 := by rw [h]; rfl
    simp at this; subst this; simp at hi
  · exact ⟨b, off, hA, hB, fun j hj => hc j _ (us_get l j hj)⟩
theorem Rd.at_is {w : World} {B : Nat} {A : Option Addr} {l : List Int} (h : Rd w B A (is l)) {i : Nat} (hi : i < l.length) :
    ∃ b off, A = some ⟨b, off, none⟩ ∧ b < B ∧ ∀ j (hj : j < l.length), w.cell? ⟨b, off + j, none⟩ = some (.int .i64 l[j]) := by
  rcases h with h | ⟨b, off, hA, hB, hc⟩
  · have : (is l).length = 0 := by rw [h]; rfl
    simp at this; subst this; simp at hi
  · exact ⟨b, off, hA, hB, fun j hj => hc j _ (is_get l j hj)⟩

theorem cell_later_ {w w' : World} {B b o : Nat} {v : Value} (hb : Below B w w') (h : b < B) (hc : w.cell? ⟨b, o, none⟩ = some v) : w'.cell? ⟨b, o, none⟩ = some v := (hb.cell (p := ⟨b, o, none⟩) h).trans hc

theorem cell_alloc {w : World} {a : Addr} {v : Value} (h : w.cell? a = some v) (o : Obj) : (w.alloc o).cell? a = some v :=
  (World.cell?_alloc_lt w o a (World.block_lt_of_cell? w a h)).trans h
theorem frozen_alloc {w : World} {a : Addr} {v : Value} (h : w.cell? a = some v) (hf : w.frozen? a = false) (o : Obj) : (w.alloc o).frozen? a = false :=
  (World.frozen?_of_block (Below.heap_alloc w o a.block (World.block_lt_of_cell? w a h))).trans hf
theorem cell_new (w : World) (cs : Array Value) (t : TypeId) (i : Nat) (v : Value) (h : cs[i]? = some v) : (w.alloc (.cells cs t)).cell? ⟨w.heap.size, i, none⟩ = some v := by
  rw [World.cell?_alloc_at _ _ _ _ rfl]; exact h

/-- The bits of numbers, as the machine makes them. -/
theorem bits_and (x y : U32) : bits .and .u32 (x.toNat : Int) (y.toNat : Int) = ((x &&& y).toNat : Int) := by
  rw [u32_and_nat _ _ x.isLt y.isLt]; rfl
theorem bits_or (x y : U32) : bits .or .u32 (x.toNat : Int) (y.toNat : Int) = ((x ||| y).toNat : Int) := by
  rw [u32_or_nat _ _ x.isLt y.isLt]; rfl
theorem bits_andNot (x y : U32) : bits .andNot .u32 (x.toNat : Int) (y.toNat : Int) = ((x &&& ~~~y).toNat : Int) := by
  rw [u32_andNot_nat _ _ x.isLt y.isLt, BitVec.toNat_and, BitVec.toNat_not]
/-- The bits of x that aren't y's. -/
def minus (x y : U32) : U32 := x &&& ~~~y
theorem bits_minus (x y : U32) : bits .andNot .u32 (x.toNat : Int) (y.toNat : Int) = ((minus x y).toNat : Int) := bits_andNot x y
theorem bits_one (x : U32) (k : Nat) : bits .and .u32 ((x.toNat : Int) / 2 ^ k) 1 = if x.getLsbD k then 1 else 0 := by
  have e : ((x.toNat : Int) / 2 ^ k) = ((x.toNat / 2 ^ k : Nat) : Int) := by simp
  have h2 : x.toNat / 2 ^ k < 4294967296 := Nat.lt_of_le_of_lt (Nat.div_le_self _ _) x.isLt
  rw [e, show (1 : Int) = ((1 : Nat) : Int) from rfl, u32_and_nat _ _ h2 (by omega), nat_mask1, BitVec.getLsbD, Nat.testBit_eq_decide_div_mod_eq]
  rcases Nat.mod_two_eq_zero_or_one (x.toNat / 2 ^ k) with h | h <;> simp [h]
theorem bit_set (x : U32) (k : Nat) : (bits .and .u32 ((x.toNat : Int) / 2 ^ k) 1 == 1) = x.getLsbD k := by
  rw [bits_one]; cases x.getLsbD k <;> rfl
theorem bit_clear (x : U32) (k : Nat) : (bits .and .u32 ((x.toNat : Int) / 2 ^ k) 1 == 0) = !x.getLsbD k := by
  rw [bits_one]; cases x.getLsbD k <;> rfl
/-- The number whose only bit is k. -/
def bitv (k : Nat) : U32 := BitVec.ofNat 32 (2 ^ k)
theorem bitv_toNat (k : Nat) (h : k < 32) : (bitv k).toNat = 2 ^ k := by
  have : 2 ^ k < 2 ^ 32 := Nat.pow_lt_pow_right (by omega) h
  simp only [bitv, BitVec.toNat_ofNat]; exact Nat.mod_eq_of_lt this
theorem bitv_get (k j : Nat) : (bitv k).getLsbD j = (decide (j < 32) && decide (k = j)) := by
  simp [bitv, BitVec.getLsbD_ofNat, Nat.testBit_two_pow]
theorem bitv_int (k : Nat) : ((2 : Int) ^ k % 4294967296) = ((bitv k).toNat : Int) := by
  simp only [bitv, BitVec.toNat_ofNat]
  have : ((2 : Int) ^ k) = ((2 ^ k : Nat) : Int) := by simp
  rw [this]; rfl
def all32 (n : Nat) : U32 := BitVec.ofNat 32 (2 ^ n - 1)
theorem all32_toNat (n : Nat) (hn : n ≤ 32) : (all32 n).toNat = 2 ^ n - 1 := by
  have h2 : 2 ^ n ≤ 2 ^ 32 := Nat.pow_le_pow_right (by omega) hn
  have h1 : 0 < 2 ^ n := Nat.pow_pos (by omega)
  simp only [all32, BitVec.toNat_ofNat]; exact Nat.mod_eq_of_lt (by omega)
theorem all32_get (n j : Nat) : (all32 n).getLsbD j = (decide (j < 32) && decide (j < n)) := by
  simp [all32, BitVec.getLsbD_ofNat, Nat.testBit_two_pow_sub_one]
theorem pow_wrap (n : Nat) (hn : n ≤ 32) : IntKind.u64.wrap (IntKind.u64.wrap (2 ^ n) - 1) % 4294967296 = ((2 ^ n - 1 : Nat) : Int) := by
  have h2 : 2 ^ n ≤ 2 ^ 32 := Nat.pow_le_pow_right (by omega) hn
  have h1 : 0 < 2 ^ n := Nat.pow_pos (by omega)
  have e : ((2 : Int) ^ n) = ((2 ^ n : Nat) : Int) := by simp
  rw [e]
  generalize 2 ^ n = m at *
  simp only [IntKind.wrap, IntKind.bits, IntKind.signed]
  simp
  omega

/-- A block of cells that is known whole. -/
abbrev Blk (w : World) (g : Nat) (cs : Array Value) (t : TypeId) : Prop := w.heap[g]? = some (.cells cs t (0, 0))
theorem Blk.cell {w : World} {g : Nat} {cs : Array Value} {t : TypeId} (h : Blk w g cs t) (i : Nat) (v : Value) (hv : cs[i]? = some v) : w.cell? ⟨g, i, none⟩ = some v := by
  simp [World.cell?, h, hv]
theorem Blk.lt {w : World} {g : Nat} {cs : Array Value} {t : TypeId} (h : Blk w g cs t) : g < w.heap.size := (Array.getElem?_eq_some_iff.1 h).1
theorem Blk.frozen {w : World} {g : Nat} {cs : Array Value} {t : TypeId} (h : Blk w g cs t) (o : Nat) : w.frozen? ⟨g, o, none⟩ = false := by
  simp [World.frozen?, h]
theorem Blk.new (w : World) (cs : Array Value) (t : TypeId) : Blk (w.alloc (.cells cs t)) w.heap.size cs t := heap_alloc_new _ _
theorem Blk.below {w w' : World} {B g : Nat} {cs : Array Value} {t : TypeId} (h : Blk w g cs t) (hb : Below B w w') (hg : g < B) : Blk w' g cs t := (hb.block g hg).trans h
theorem Blk.later {w w' : World} {g : Nat} {cs : Array Value} {t : TypeId} (h : Blk w g cs t) (hb : Below w.heap.size w w') : Blk w' g cs t := h.below hb h.lt
theorem Blk.alloc {w : World} {g : Nat} {cs : Array Value} {t : TypeId} (h : Blk w g cs t) (o : Obj) : Blk (w.alloc o) g cs t := h.later ((Below.refl _ _).alloc (Nat.le_refl _) o)
theorem Blk.set {w : World} {g : Nat} {cs : Array Value} {t : TypeId} (h : Blk w g cs t) (i : Nat) (v : Value) : Blk (w.setCell ⟨g, i, none⟩ v) g (cs.setIfInBounds i v) t := heap_setCell_same w g i cs t v h
theorem Blk.setOther {w : World} {g k : Nat} {cs : Array Value} {t : TypeId} (h : Blk w g cs t) (hk : g ≠ k) (i : Nat) (v : Value) : Blk (w.setCell ⟨k, i, none⟩ v) g cs t := (heap_setCell_other w ⟨k, i, none⟩ g v hk).trans h

end Go.Proofs.Ytgefngjfpodiiaa
