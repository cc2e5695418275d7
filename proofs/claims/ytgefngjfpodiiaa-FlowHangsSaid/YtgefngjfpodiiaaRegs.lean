/-
  Registers (package regs): in, Get, Set, rest, Place, by walks.
-/
import Derived.Test.YtgefngjfpodiiaaIns2
import Derived.ChangeMaps4
import Derived.MapKept
import Derived.Carry
namespace Go.Proofs.Ytgefngjfpodiiaa
open Go.RowKit Go.MapKept
set_option linter.unusedVariables false

/-- Four registers, and on what each hangs. -/
structure Fl where
  v0 : Int
  v1 : Int
  v2 : Int
  v3 : Int
  p0 : U32
  p1 : U32
  p2 : U32
  p3 : U32
  deriving DecidableEq
def Fl.arr (f : Fl) : Array Value := #[.int .i64 f.v0, .int .i64 f.v1, .int .i64 f.v2, .int .i64 f.v3, .int .u32 (f.p0.toNat : Int), .int .u32 (f.p1.toNat : Int), .int .u32 (f.p2.toNat : Int), .int .u32 (f.p3.toNat : Int)]
def Fl.get (f : Fl) (n : Int) : Int := if n = 0 then f.v0 else if n = 1 then f.v1 else if n = 2 then f.v2 else if n = 3 then f.v3 else 0
def Fl.dep (f : Fl) (n : Int) : U32 := if n = 0 then f.p0 else if n = 1 then f.p1 else if n = 2 then f.p2 else if n = 3 then f.p3 else 0
def Fl.set (f : Fl) (n : Int) (v : Int) (d : U32) : Fl := if n = 0 then { f with v0 := v, p0 := d } else if n = 1 then { f with v1 := v, p1 := d } else if n = 2 then { f with v2 := v, p2 := d } else if n = 3 then { f with v3 := v, p3 := d } else f
/-- All four numbers are numbers of 64 bits. -/
def I64 (n : Int) : Prop := -9223372036854775808 ≤ n ∧ n ≤ 9223372036854775807
theorem Blk.fl {w : World} {g : Nat} {f : Fl} {t : TypeId} (h : Blk w g f.arr t) : w.cell? ⟨g, 0, none⟩ = some (.int .i64 f.v0) ∧ w.cell? ⟨g, 1, none⟩ = some (.int .i64 f.v1) ∧ w.cell? ⟨g, 2, none⟩ = some (.int .i64 f.v2) ∧ w.cell? ⟨g, 3, none⟩ = some (.int .i64 f.v3) ∧
    w.cell? ⟨g, 4, none⟩ = some (.int .u32 (f.p0.toNat : Int)) ∧ w.cell? ⟨g, 5, none⟩ = some (.int .u32 (f.p1.toNat : Int)) ∧ w.cell? ⟨g, 6, none⟩ = some (.int .u32 (f.p2.toNat : Int)) ∧ w.cell? ⟨g, 7, none⟩ = some (.int .u32 (f.p3.toNat : Int)) :=
  ⟨h.cell 0 _ rfl, h.cell 1 _ rfl, h.cell 2 _ rfl, h.cell 3 _ rfl, h.cell 4 _ rfl, h.cell 5 _ rfl, h.cell 6 _ rfl, h.cell 7 _ rfl⟩

def inB (n : Int) : Bool := decide (0 ≤ n) && decide (n < 4)
theorem in_any_ (n : Int) (w : World) : Calls Try.prog 54 #[.int .i64 n] w fun e w' => e = .returned (.bool (inB n)) ∧ w = w' := by
  unfold inB
  by_cases h1 : 0 ≤ n
  · have t1 : decide (0 ≤ n) = true := by simp [h1]
    by_cases h2 : n < 4
    · have t2 : decide (n < 4) = true := by simp [h2]
      go_enter Try.func54, Try.ntmps54
      go_wp2
      go_ret
      exact ⟨(by first | rfl | (rw [t1, t2]; rfl)), rfl⟩
    · have t2 : decide (n < 4) = false := by simp; omega
      go_enter Try.func54, Try.ntmps54
      go_wp2
      go_ret
      exact ⟨(by first | rfl | (rw [t1, t2]; rfl)), rfl⟩
  · have t1 : decide (0 ≤ n) = false := by simp; omega
    go_enter Try.func54, Try.ntmps54
    go_wp2
    go_ret
    exact ⟨(by first | rfl | (rw [t1]; rfl)), rfl⟩

theorem inB_no (n : Int) (h : ¬(n = 0 ∨ n = 1 ∨ n = 2 ∨ n = 3)) : inB n = false := by
  unfold inB
  rw [Bool.and_eq_false_iff]
  rcases (show n < 0 ∨ 4 ≤ n by omega) with h | h
  · exact .inl (by simp; omega)
  · exact .inr (by simp; omega)
theorem Fl.get_no (f : Fl) (n : Int) (h : ¬(n = 0 ∨ n = 1 ∨ n = 2 ∨ n = 3)) : f.get n = 0 := by
  unfold Fl.get; rw [if_neg (by omega), if_neg (by omega), if_neg (by omega), if_neg (by omega)]
theorem Fl.dep_no (f : Fl) (n : Int) (h : ¬(n = 0 ∨ n = 1 ∨ n = 2 ∨ n = 3)) : f.dep n = 0 := by
  unfold Fl.dep; rw [if_neg (by omega), if_neg (by omega), if_neg (by omega), if_neg (by omega)]
theorem Fl.set_no (f : Fl) (n v : Int) (d : U32) (h : ¬(n = 0 ∨ n = 1 ∨ n = 2 ∨ n = 3)) : f.set n v d = f := by
  unfold Fl.set; rw [if_neg (by omega), if_neg (by omega), if_neg (by omega), if_neg (by omega)]

theorem get_any (f : Fl) (n : Int) (w : World) : Calls Try.prog 50 #[.agg f.arr, .int .i64 n] w fun e w' => e = .returned (.tuple #[.int .i64 (f.get n), .int .u32 ((f.dep n).toNat : Int)]) ∧ Below w.heap.size w w' := by
  have hb : Below w.heap.size w (w.alloc (.cells f.arr 38)) := (Below.refl _ _).alloc (Nat.le_refl _) _
  by_cases h : n = 0 ∨ n = 1 ∨ n = 2 ∨ n = 3
  · rcases h with rfl | rfl | rfl | rfl
    all_goals
      unfold Fl.arr at *
      go_enter Try.func50, Try.ntmps50
      go_wp2_with fail
      refine (in_any_ _ _).mono ?_
      rintro e w1 ⟨rfl, rfl⟩
      go_wp2_with fail
      go_quiet (fail)
      go_wp2_with fail
      exact bodyPost_ret (results_tmp2 Try.results50 _ _ _) rfl ⟨rfl, below_drewN hb _⟩
  · have hi := inB_no n h
    rw [f.get_no n h, f.dep_no n h]
    clear h
    unfold Fl.arr at *
    go_enter Try.func50, Try.ntmps50
    go_wp2_with fail
    refine (in_any_ _ _).mono ?_
    rintro e w1 ⟨rfl, rfl⟩
    go_wp2_with fail
    exact bodyPost_ret (results_tmp2 Try.results50 _ _ _) rfl ⟨rfl, hb⟩

theorem set_any (f : Fl) (n v : Int) (d : U32) (w : World) : Calls Try.prog 48 #[.agg f.arr, .int .i64 n, .int .i64 v, .int .u32 (d.toNat : Int)] w fun e w' => e = .returned (.agg (f.set n v d).arr) ∧ Below w.heap.size w w' := by
  by_cases h : n = 0 ∨ n = 1 ∨ n = 2 ∨ n = 3
  · rcases h with rfl | rfl | rfl | rfl
    all_goals
      unfold Fl.arr at *
      go_enter Try.func48, Try.ntmps48
      go_wp2_with fail
      refine (in_any_ _ _).mono ?_
      rintro e w1 ⟨rfl, rfl⟩
      go_wp2_with fail
      exact bodyPost_ret (v := .agg (f.set _ v d).arr) (by simp [results, Try.results48, go_sem, Fl.set, Fl.arr]) rfl ⟨rfl, below_alloc ((Below.refl _ _).alloc (Nat.le_refl _) _) _ (Nat.le_refl _)⟩
  · have hi := inB_no n h
    rw [f.set_no n v d h]
    clear h
    unfold Fl.arr at *
    go_enter Try.func48, Try.ntmps48
    go_wp2_with fail
    refine (in_any_ _ _).mono ?_
    rintro e w1 ⟨rfl, rfl⟩
    go_wp2_with fail
    exact bodyPost_ret (v := .agg f.arr) (by simp [results, Try.results48, go_sem, Fl.arr]) rfl ⟨rfl, below_alloc ((Below.refl _ _).alloc (Nat.le_refl _) _) _ (Nat.le_refl _)⟩

theorem restI_eq (n b : Int) (hb : 1 ≤ b) : (n.tmod b + b) % b = n % b := by
  rw [Int.add_emod_right]
  have h1 : n = n.tmod b + b * n.tdiv b := (Int.tmod_add_mul_tdiv n b).symm
  conv => rhs; rw [h1]
  rw [Int.add_mul_emod_self_left]

theorem rest_any (n b : Int) (w : World) (hn : I64 n) (hb : 1 ≤ b) (hb2 : b ≤ 1000000) : Calls Try.prog 53 #[.int .i64 n, .int .i64 b] w fun e w' => e = .returned (.int .i64 (n % b)) ∧ w = w' := by
  have H := Lib.hid (restI_eq n b hb)
  have hb0 : b ≠ 0 := by omega
  have h1 : -b < n.tmod b := Int.lt_tmod_of_pos n (by omega)
  have h2 : n.tmod b < b := Int.tmod_lt_of_pos n (by omega)
  unfold I64 at hn
  go_enter Try.func53, Try.ntmps53
  go_wp2_with fail
  go_ret
  exact ⟨by rw [← H.out]; rfl, rfl⟩

theorem upd_new {P : Program} {w : World} {t kt et : TypeId} {es : Array MapEntry} {clock : Nat} (n : Int) (val : Value) (ht : P.underlying t = some (.map kt et)) (hk : P.underlying kt = some (.int .i64))
    (hf : Instr.findNow (.int .i64) (.int .i64 n) es.toList 0 = some none) :
    (Instr.mapUpdate t (.map (some w.heap.size)) (.int .i64 n) val).run P (w.alloc (.map es clock)) = .ok () (w.alloc (.map (es.push ⟨.int .i64 n, val, clock⟩) (clock + 1))) := by
  have hb : (w.alloc (.map es clock)).heap[w.heap.size]? = some (.map es clock) := heap_alloc_new _ _
  have hkey : IsKey (.int .i64) (.int .i64 n) := by simp [IsKey]
  simp [Instr.mapUpdate, run_underlying ht, MapKept.run_getObj_map hb, run_checkKey hk hkey, run_findKey hk hf, MapKept.run_setObj_map _ hb, Result.andThen]
  simp only [World.alloc]
  congr 1
  apply Array.ext'
  simp

theorem look_at {P : Program} {w : World} {t kt et : TypeId} {es : Array MapEntry} {clock : Nat} (n : Int) (v : Value) (i : Nat) (ht : P.underlying t = some (.map kt et)) (hk : P.underlying kt = some (.int .i64))
    (hf : Instr.findNow (.int .i64) (.int .i64 n) es.toList 0 = some (some (i, v))) :
    (Instr.lookup t (.map (some w.heap.size)) (.int .i64 n) false).run P (w.alloc (.map es clock)) = .ok v (w.alloc (.map es clock)) := by
  have hb : (w.alloc (.map es clock)).heap[w.heap.size]? = some (.map es clock) := heap_alloc_new _ _
  have hkey : IsKey (.int .i64) (.int .i64 n) := by simp [IsKey]
  simp [Instr.lookup, run_underlying ht, MapKept.run_getObj_map hb, run_checkKey hk hkey, run_findKey hk hf, Result.andThen]

theorem look_none {P : Program} {w : World} {t kt et : TypeId} {es : Array MapEntry} {clock : Nat} (n : Int) (z : Value) (ht : P.underlying t = some (.map kt et)) (hk : P.underlying kt = some (.int .i64))
    (hz : ∀ w, (zeroValue et).run P w = .ok z w) (hf : Instr.findNow (.int .i64) (.int .i64 n) es.toList 0 = some none) :
    (Instr.lookup t (.map (some w.heap.size)) (.int .i64 n) false).run P (w.alloc (.map es clock)) = .ok z (w.alloc (.map es clock)) := by
  have hb : (w.alloc (.map es clock)).heap[w.heap.size]? = some (.map es clock) := heap_alloc_new _ _
  have hkey : IsKey (.int .i64) (.int .i64 n) := by simp [IsKey]
  simp [Instr.lookup, run_underlying ht, MapKept.run_getObj_map hb, run_checkKey hk hkey, run_findKey hk hf, Result.andThen, hz]

/-- The three operations, as functions. -/
def opsMap : Array MapEntry := #[⟨.int .i64 2, .func (.func 56) #[] #[], 0⟩, ⟨.int .i64 3, .func (.func 57) #[] #[], 1⟩, ⟨.int .i64 4, .func (.func 58) #[] #[], 2⟩]
def makesV (op : Int) : Value := if op = 2 then .func (.func 56) #[] #[] else if op = 3 then .func (.func 57) #[] #[] else if op = 4 then .func (.func 58) #[] #[] else .nilFunc
theorem ops_look (op : Int) (w : World) : (Instr.lookup 93 (.map (some w.heap.size)) (.int .i64 op) false).run Try.prog (w.alloc (.map opsMap 3)) = .ok (makesV op) (w.alloc (.map opsMap 3)) := by
  by_cases h2 : op = 2
  · subst h2
    exact look_at (es := opsMap) 2 _ 0 Try.underlying93 Try.underlying3 rfl
  by_cases h3 : op = 3
  · subst h3
    exact look_at (es := opsMap) 3 _ 1 Try.underlying93 Try.underlying3 rfl
  by_cases h4 : op = 4
  · subst h4
    exact look_at (es := opsMap) 4 _ 2 Try.underlying93 Try.underlying3 rfl
  have : makesV op = .nilFunc := by simp [makesV, h2, h3, h4]
  rw [this]
  refine look_none (es := opsMap) op .nilFunc Try.underlying93 Try.underlying3 (fun w => by kernel_rfl) ?_
  have t2 : (op == 2) = false := by simp [h2]
  have t3 : (op == 3) = false := by simp [h3]
  have t4 : (op == 4) = false := by simp [h4]
  simp [opsMap, Instr.findNow, Instr.sameNow, t2, t3, t4]

theorem makes_any (op : Int) (w : World) : Calls Try.prog 55 #[.int .i64 op] w fun e w' => e = .returned (makesV op) ∧ Below w.heap.size w w' := by
  have hm := @run_makeMap
  have h2 := fun w v => upd_new (P := Try.prog) (w := w) (es := #[]) (clock := 0) 2 v Try.underlying93 Try.underlying3 rfl
  have h3 := fun w v v2 => upd_new (P := Try.prog) (w := w) (es := #[⟨.int .i64 2, v2, 0⟩]) (clock := 1) 3 v Try.underlying93 Try.underlying3 rfl
  have h4 := fun w v v2 v3 => upd_new (P := Try.prog) (w := w) (es := #[⟨.int .i64 2, v2, 0⟩, ⟨.int .i64 3, v3, 1⟩]) (clock := 2) 4 v Try.underlying93 Try.underlying3 rfl
  have h5 := ops_look op
  unfold opsMap at h5
  go_enter Try.func55, Try.ntmps55
  go_wp2_with fail
  go_ret
  exact ⟨rfl, (Below.refl _ _).alloc (Nat.le_refl _) _⟩

/-- What the three operations make of two numbers. -/
def addI (a b : Int) : Int := wrap64 (a + b)
theorem makes1_any (a b : Int) (w : World) : Calls Try.prog 56 #[.int .i64 a, .int .i64 b] w fun e w' => e = .returned (.int .i64 (addI a b)) ∧ w = w' := by
  go_enter Try.func56, Try.ntmps56
  go_wp2_with fail
  go_ret
  exact ⟨rfl, rfl⟩
theorem makes2_any (a b : Int) (w : World) : Calls Try.prog 57 #[.int .i64 a, .int .i64 b] w fun e w' => e = .returned (.int .i64 (bits .xor .i64 a b)) ∧ w = w' := by
  go_enter Try.func57, Try.ntmps57
  go_wp2_with fail
  go_ret
  exact ⟨rfl, rfl⟩
theorem makes3_any (a b : Int) (w : World) : Calls Try.prog 58 #[.int .i64 a, .int .i64 b] w fun e w' => e = .returned (.int .i64 (bits .and .i64 a b)) ∧ w = w' := by
  go_enter Try.func58, Try.ntmps58
  go_wp2_with fail
  go_ret
  exact ⟨rfl, rfl⟩

end Go.Proofs.Ytgefngjfpodiiaa
