/- Parts of the proof: Mem, Mk1, Mk2. (Merged by pack.py.) -/
import Derived.WalkKit
import Derived.WalkSpells
import Derived.WalkLawsBesides
import Derived.Laws.CopyOwn
import Derived.Deep.Draws
import Derived.Lib.Hide
import Derived.Lib.ConvBytes
import Derived.Deep.QuietTactic
import Derived.BigQuiet
import Derived.Test.YtclkahggfdnpgaaProg
import Derived.Deep.LoopGhost
import Derived.Deep.DeepCutAuto
import Derived.StillTailTactics
import Derived.Laws.AppendOwn
import Derived.Laws.OwnMore

namespace Go.Proofs.Ytclkahggfdnpgaa
open Go.RowKit

/-- Of the blocks that were there in w, those outside S are in w' as they were. -/
structure Fr (S : List Nat) (w w' : World) : Prop where
  os : w'.os = w.os
  tape : w'.tape = w.tape
  output : w'.output = w.output
  size : w.heap.size ≤ w'.heap.size
  block : ∀ k, k < w.heap.size → k ∉ S → w'.heap[k]? = w.heap[k]?

theorem Fr.refl (S : List Nat) (w : World) : Fr S w w := ⟨rfl, rfl, rfl, Nat.le_refl _, fun _ _ _ => rfl⟩
theorem Fr.trans {S T : List Nat} {a b c : World} (h : Fr S a b) (k : Fr T b c) (hT : ∀ x, x ∈ T → x ∈ S ∨ a.heap.size ≤ x) : Fr S a c :=
  ⟨k.os.trans h.os, k.tape.trans h.tape, k.output.trans h.output, Nat.le_trans h.size k.size, fun i hi hS => by
    rw [k.block i (Nat.lt_of_lt_of_le hi h.size) (fun hx => by rcases hT i hx with h' | h'; exact hS h'; omega)]
    exact h.block i hi hS⟩
theorem Fr.mono {S T : List Nat} {a b : World} (h : Fr S a b) (hT : ∀ x, x ∈ S → x ∈ T ∨ a.heap.size ≤ x) : Fr T a b :=
  ⟨h.os, h.tape, h.output, h.size, fun i hi hS => h.block i hi (fun hx => by rcases hT i hx with h' | h'; exact hS h'; omega)⟩
theorem Fr.alloc {S : List Nat} {a w : World} (h : Fr S a w) (o : Obj) : Fr S a (w.alloc o) :=
  h.trans (T := []) ⟨rfl, rfl, rfl, by simp, fun k hk _ => Below.heap_alloc _ _ _ hk⟩ (by simp)
theorem Fr.setCell {S : List Nat} {a w : World} (h : Fr S a w) {p : Addr} (hp : p.block ∈ S ∨ a.heap.size ≤ p.block) (u : Value) : Fr S a (w.setCell p u) :=
  h.trans (T := [p.block]) ⟨rfl, rfl, rfl, by simp, fun k _ hk => Below.heap_setCell _ _ _ _ (by simpa using hk)⟩ (by simpa using hp)
theorem Fr.setRow {S : List Nat} {a w : World} (h : Fr S a w) {g : Nat} (hp : g ∈ S ∨ a.heap.size ≤ g) (cs : Array Value) : Fr S a (w.setRow g cs) :=
  h.trans (T := [g]) ⟨rfl, rfl, rfl, by simp, fun k _ hk => setRow_other w g k cs (by simpa using hk)⟩ (by simpa using hp)
theorem Fr.drew {S : List Nat} {a w : World} (h : Fr S a w) : Fr S a w.drew := ⟨h.os, h.tape, h.output, h.size, h.block⟩
theorem Fr.drewN {S : List Nat} {a w : World} (h : Fr S a w) (n : Nat) : Fr S a (w.drewN n) := ⟨h.os, h.tape, h.output, h.size, h.block⟩
theorem Fr.below {S : List Nat} {B : Nat} {w w' : World} (h : Fr S w w') (hS : ∀ x, x ∈ S → B ≤ x) (hB : B ≤ w.heap.size) : Below B w w' :=
  ⟨h.os, h.tape, h.output, h.size, fun k hk => h.block k (by omega) (fun hx => by have := hS k hx; omega)⟩
theorem Fr.nil_below {w w' : World} (h : Fr [] w w') : Below w.heap.size w w' := h.below (by simp) (Nat.le_refl _)
theorem Fr.of_grown {w w' : World} {row : Option Nat} (h : w.grownBy w' row) (S : List Nat) (hr : ∀ k, row = some k → k ∈ S ∨ w.heap.size ≤ k) : Fr S w w' :=
  ⟨h.os, h.tape, h.output, h.size, fun k hk hS => h.block k hk (fun e => by rcases hr k e.symm with h' | h'; exact hS h'; omega)⟩

/-- Block g holds the cells C. -/
def Row (w : World) (g : Nat) (C : List Value) (t : TypeId) : Prop := w.heap[g]? = some (.cells C.toArray t (0, 0))
theorem Row.lt {w : World} {g : Nat} {C : List Value} {t : TypeId} (h : Row w g C t) : g < w.heap.size := (Array.getElem?_eq_some_iff.1 h).1
theorem Row.cell {w : World} {g : Nat} {C : List Value} {t : TypeId} (h : Row w g C t) (j : Nat) : w.cell? ⟨g, j, none⟩ = C[j]? := by
  rw [cell_of_row w g j _ t _ h]; simp
theorem Row.frozen {w : World} {g : Nat} {C : List Value} {t : TypeId} (h : Row w g C t) (j : Nat) : w.frozen? ⟨g, j, none⟩ = false := frozen_of_row w g j _ t h
theorem Row.fr {S : List Nat} {w w' : World} {g : Nat} {C : List Value} {t : TypeId} (h : Row w g C t) (f : Fr S w w') (hg : g ∉ S) : Row w' g C t :=
  (f.block g h.lt hg).trans h
theorem Row.below {w w' : World} {B g : Nat} {C : List Value} {t : TypeId} (h : Row w g C t) (f : Below B w w') (hg : g < B) : Row w' g C t :=
  (f.block g hg).trans h
theorem Row.setCell {w : World} {g : Nat} {C : List Value} {t : TypeId} (h : Row w g C t) (j : Nat) (v : Value) : Row (w.setCell ⟨g, j, none⟩ v) g (C.set j v) t := by
  unfold Row at *
  rw [heap_setCell_same w g j _ t v h]
  simp
theorem Row.setCell_other {w : World} {g : Nat} {C : List Value} {t : TypeId} (h : Row w g C t) (a : Addr) (v : Value) (hg : g ≠ a.block) : Row (w.setCell a v) g C t := by
  unfold Row at *
  rw [heap_setCell_other w a g v hg]
  exact h
theorem Row.setRow {w : World} {g : Nat} {C : List Value} {t : TypeId} (h : Row w g C t) (D : List Value) : Row (w.setRow g D.toArray) g D t := setRow_heap w g _ _ t _ h
theorem Row.setRow_other {w : World} {g k : Nat} {C : List Value} {t : TypeId} (h : Row w g C t) (D : Array Value) (hg : g ≠ k) : Row (w.setRow k D) g C t := by
  unfold Row at *
  rw [_root_.Go.setRow_other w k g D hg]
  exact h
theorem Row.alloc {w : World} {g : Nat} {C : List Value} {t : TypeId} (h : Row w g C t) (o : Obj) : Row (w.alloc o) g C t := by
  unfold Row at *
  rw [Below.heap_alloc w o g (Array.getElem?_eq_some_iff.1 h).1]
  exact h
theorem Row.new (w : World) (C : List Value) (t : TypeId) : Row (w.alloc (.cells C.toArray t)) w.heap.size C t := heap_alloc_new _ _
theorem Row.drew {w : World} {g : Nat} {C : List Value} {t : TypeId} (h : Row w g C t) : Row w.drew g C t := h
theorem Row.drewN {w : World} {g : Nat} {C : List Value} {t : TypeId} (h : Row w g C t) (n : Nat) : Row (w.drewN n) g C t := h

theorem Addr_add (g o j : Nat) : (⟨g, o, none⟩ : Addr).add j = ⟨g, o + j, none⟩ := by unfold Addr.add; split <;> simp_all

/-- A struct or an array read as a value out of the middle of a block. -/
theorem run_loadVar_at (P : Program) (w : World) (ty g o : Nat) (cs : List Value) (hagg : ∀ w, (isAgg ty).run P w = .ok true w) (hc : ∀ j v, cs[j]? = some v → w.cell? ⟨g, o + j, none⟩ = some v)
    (hi : (P.info? ty).map (·.size) = some cs.length) :
    (loadVar ty ⟨g, o, none⟩).run P w = .ok (.agg cs.toArray) w := by
  have hl := run_loadCells_list (P := P) w ⟨g, o, none⟩ cs (fun j v hv => by rw [Addr_add]; exact hc j v hv)
  cases hq : P.info? ty with
  | none => simp [hq] at hi
  | some i =>
    have hs : i.size = cs.length := by simpa [hq] using hi
    simp [loadVar, Sem.run_bind, hagg w, sizeOf, typeInfo, hq, hs, hl]
theorem wpList_load_at {P : Program} {ops : Array Oper} {rest : List Oper} {o : Oper} {a : Act} {w : World} {Q : Exit → Act → World → Prop} (hgd : o.guard = none) (ty : TypeId) (x : Operand) (ho : o.op = .load ty x)
    (hagg : ∀ w, (isAgg ty).run P w = .ok true w) (n : Nat) (hi : (P.info? ty).map (·.size) = some n) (g off : Nat) (cs : List Value) (hn : cs.length = n)
    (hc : ∀ j v, cs[j]? = some v → w.cell? ⟨g, off + j, none⟩ = some v) (hx : a.eval x = .pointer (some ⟨g, off, none⟩))
    (h : wpList P ops Q rest (a.put o.dst (.agg cs.toArray)) w) : wpList P ops Q (o :: rest) a w := by
  refine wpList_plain hgd fun K hK => ?_
  unfold Oper.wp execOp
  simp only [ho, hx, Instr.loadAt, Instr.sureAddr, Sem.run_bind, Sem.run_pure, Result.andThen_ok, run_loadVar_at P w ty g off cs hagg hc (by rw [hi, hn])]
  exact hK _ _ h
/-- 'x := v', x a new variable in memory, v a struct or an array: its block is laid and filled. -/
theorem wpList_var_agg {P : Program} {ops : Array Oper} {rest : List Oper} {o o2 : Oper} {a : Act} {w : World} {Q : Exit → Act → World → Prop} (hgd : o.guard = none) (hgd2 : o2.guard = none) (ty : TypeId) (x v : Operand) (ho : o.op = .alloc ty) (ho2 : o2.op = .store ty x v)
    (n : Nat) (hi0 : (P.info? ty).map (fun i => (i.size, i.zero.map (·.cells.size))) = some (n, some n)) (cs : List Value) (hn : cs.length = n) (h1 : ∀ u ∈ cs, u.oneCell' = true)
    (hx : (a.put o.dst (.pointer (some ⟨w.heap.size, 0, none⟩))).eval x = .pointer (some ⟨w.heap.size, 0, none⟩)) (hv : (a.put o.dst (.pointer (some ⟨w.heap.size, 0, none⟩))).eval v = .agg cs.toArray)
    (h : ∀ w', Row w' w.heap.size cs ty → w'.heap.size = w.heap.size + 1 → Fr [] w w' → wpList P ops Q rest ((a.put o.dst (.pointer (some ⟨w.heap.size, 0, none⟩))).put o2.dst undef) w') : wpList P ops Q (o :: o2 :: rest) a w := by
  have hi : (P.info? ty).map (fun i => (i.size, i.zero.map (·.cells.size))) = some (cs.length, some cs.length) := by rw [hi0, hn]
  cases hq : P.info? ty with
  | none => simp [hq] at hi
  | some i =>
    have hs : i.size = cs.length := by rw [hq] at hi; simp at hi; exact hi.1
    cases hz : i.zero with
    | none => rw [hq] at hi; simp [hz] at hi
    | some z =>
      have hzs : z.cells.size = cs.length := by rw [hq] at hi; simp [hz] at hi; exact hi.2
      refine wpList_plain hgd fun K hK => ?_
      have hrun : (Instr.alloc ty true (.tuple #[])).run P w = .ok (.pointer (some ⟨w.heap.size, 0, none⟩)) (w.alloc (.cells z.cells ty)) := by
        simp [Instr.alloc, zeroValue, typeInfo, hq, hz, newVar, newRow]
      unfold Oper.wp
      simp only [execOp, ho, Sem.run_bind, hrun, Result.andThen_ok, Sem.run_pure, Oper.upon_value]
      refine hK _ _ ?_
      refine wpList_plain hgd2 fun K2 hK2 => ?_
      have hr : Row (w.alloc (.cells z.cells ty)) w.heap.size z.cells.toList ty := by
        have := Row.new w z.cells.toList ty
        simpa using this
      have hst := run_storeCells_at P w.heap.size 0 ty cs 0 z.cells.toList.toArray _ hr (by simp [hzs]) h1
      have hst2 : (storeVar ty ⟨w.heap.size, 0, none⟩ (.agg cs.toArray)).run P (w.alloc (.cells z.cells ty)) = .ok () ((w.alloc (.cells z.cells ty)).setRow w.heap.size cs.toArray) := by
        have hd : z.cells.toList.drop cs.length = [] := List.drop_eq_nil_of_le (by simp [hzs])
        have hst3 := hst
        simp [hd] at hst3
        have hc : (Value.agg cs.toArray).cells = cs.toArray := rfl
        simp [storeVar, hc, sizeOf, typeInfo, hq, hs, hst3]
      unfold Oper.wp
      simp only [execOp, ho2, hx, hv, Instr.storeAt, Instr.sureAddr, Sem.run_bind, Sem.run_pure, Result.andThen_ok, hst2, Oper.upon_skip]
      refine hK2 _ _ (h _ ?_ ?_ ?_)
      · exact hr.setRow cs
      · simp
      · exact ((Fr.refl _ _).alloc _).setRow (by simp) _

end Go.Proofs.Ytclkahggfdnpgaa
set_option linter.unusedVariables false
set_option linter.unusedSimpArgs false
namespace Go.Proofs.Ytclkahggfdnpgaa
open Go.RowKit

structure MarkD where
  inn : Bool
  age : Int
  due : Int
deriving DecidableEq, Inhabited
structure TieD where
  kind : Int
  src : Int
  dst : Int
  time : Int
deriving DecidableEq, Inhabited
structure EvD where
  name : ByteArray
  group : ByteArray
  role : ByteArray
  inn : Bool
  done : Bool
  due : Int
deriving Inhabited
def MarkD.cells (x : MarkD) : List Value := [.bool x.inn, .int .i64 x.age, .int .i64 x.due]
def TieD.cells (t : TieD) : List Value := [.int .i64 t.kind, .int .i64 t.src, .int .i64 t.dst, .int .i64 t.time]
def EvD.cells (t : EvD) : List Value := [.string t.name, .string t.group, .string t.role, .bool t.inn, .bool t.done, .int .i64 t.due]
/-- A slice whose element i's cells are C i, k of them each. -/
structure RowsAt (w : World) (a : Option Addr) (n k : Nat) (C : Nat → List Value) : Prop where
  at_ : 0 < n → ∃ b o, a = some ⟨b, o, none⟩ ∧ b < w.heap.size ∧ ∀ i, i < n → ∀ j v, (C i)[j]? = some v → w.cell? ⟨b, o + i * k + j, none⟩ = some v
theorem RowsAt.fr {w w' : World} {a : Option Addr} {n k : Nat} {C : Nat → List Value} (h : RowsAt w a n k C) (f : Fr [] w w') : RowsAt w' a n k C := by
  refine ⟨fun h0 => ?_⟩
  obtain ⟨b, o, rfl, hb, hc⟩ := h.at_ h0
  refine ⟨b, o, rfl, Nat.lt_of_lt_of_le hb f.size, fun i hi j v hj => ?_⟩
  rw [World.cell?_of_block (f.block b hb (by simp))]
  exact hc i hi j v hj
def MarksAt (w : World) (a : Option Addr) (n : Nat) (M : List MarkD) : Prop := M.length = n ∧ RowsAt w a n 3 (fun i => (M.getD i default).cells)
def TiesAt (w : World) (a : Option Addr) (n : Nat) (T : List TieD) : Prop := T.length = n ∧ RowsAt w a n 4 (fun i => (T.getD i default).cells)
def EvsAt (w : World) (a : Option Addr) (n : Nat) (E : List EvD) : Prop := E.length = n ∧ RowsAt w a n 6 (fun i => (E.getD i default).cells)
theorem MarksAt.fr {w w' : World} {a : Option Addr} {n : Nat} {M : List MarkD} (h : MarksAt w a n M) (f : Fr [] w w') : MarksAt w' a n M := ⟨h.1, h.2.fr f⟩
theorem TiesAt.fr {w w' : World} {a : Option Addr} {n : Nat} {M : List TieD} (h : TiesAt w a n M) (f : Fr [] w w') : TiesAt w' a n M := ⟨h.1, h.2.fr f⟩
theorem EvsAt.fr {w w' : World} {a : Option Addr} {n : Nat} {M : List EvD} (h : EvsAt w a n M) (f : Fr [] w w') : EvsAt w' a n M := ⟨h.1, h.2.fr f⟩
def MarkD.val (x : MarkD) : Value := .agg #[.bool x.inn, .int .i64 x.age, .int .i64 x.due]
def TieD.val (t : TieD) : Value := .agg #[.int .i64 t.kind, .int .i64 t.src, .int .i64 t.dst, .int .i64 t.time]
def withinB (n hi : Int) : Bool := decide (n ≥ -1) && decide (n ≤ hi)
theorem ret_bool {a b : Bool} (h : a = b) : Ending.returned (.bool a) = Ending.returned (.bool b) := by rw [h]
theorem within_any (n hi : Int) (w : World) : Calls Try.prog 69 #[.int .i64 n, .int .i64 hi] w fun e w' => e = .returned (.bool (withinB n hi)) ∧ w = w' := by
  by_cases h1 : n ≥ -1
  · have d1 : decide (n ≥ -1) = true := by simpa using h1
    have hb : withinB n hi = decide (n ≤ hi) := by unfold withinB; rw [d1, Bool.true_and]
    rw [hb]
    clear hb h1
    by_cases h2 : n ≤ hi
    · have d2 : decide (n ≤ hi) = true := by simpa using h2
      rw [d2]
      go_enter Try.func69, Try.ntmps69
      go_wp2
      go_ret
      exact ⟨rfl, rfl⟩
    · have d2 : decide (n ≤ hi) = false := by simpa using h2
      rw [d2]
      go_enter Try.func69, Try.ntmps69
      go_wp2
      go_ret
      exact ⟨rfl, rfl⟩
  · have d1 : decide (n ≥ -1) = false := by simpa using h1
    have hb : withinB n hi = false := by unfold withinB; rw [d1, Bool.false_and]
    rw [hb]
    go_enter Try.func69, Try.ntmps69
    go_wp2
    go_ret
    exact ⟨rfl, rfl⟩
def MarkD.bad (x : MarkD) : Bool := !withinB x.age 65536 || !withinB x.due 1048576
def MarkD.pend (x : MarkD) : Bool := x.inn && decide (x.due ≥ 0)
theorem badf_any (x : MarkD) (w : World) : Calls Try.prog 68 #[x.val] w fun e w' => e = .returned (.bool x.bad) ∧ Fr [] w w' := by
  have C1 := fun w => within_any x.age 65536 w
  have C2 := fun w => within_any x.due 1048576 w
  unfold MarkD.bad MarkD.val
  generalize withinB x.age 65536 = p at C1 ⊢
  generalize withinB x.due 1048576 = q at C2 ⊢
  have D1 := Lib.hid C1
  have D2 := Lib.hid C2
  clear C1 C2
  have hr := (Fr.refl [] w).alloc (.cells #[.bool x.inn, .int .i64 x.age, .int .i64 x.due] 52)
  have HR := Lib.hid hr
  clear hr
  cases p
  · go_enter Try.func68, Try.ntmps68
    go_wp2_with fail
    refine (D1.out _).mono ?_
    rintro e w' ⟨rfl, rfl⟩
    go_wp2_with fail
    go_ret
    exact ⟨rfl, HR.out⟩
  · go_enter Try.func68, Try.ntmps68
    go_wp2_with fail
    refine (D1.out _).mono ?_
    rintro e w' ⟨rfl, rfl⟩
    go_wp2_with fail
    refine (D2.out _).mono ?_
    rintro e w' ⟨rfl, rfl⟩
    go_wp2_with fail
    go_ret
    exact ⟨rfl, HR.out⟩
theorem pendf_any (x : MarkD) (w : World) : Calls Try.prog 70 #[x.val] w fun e w' => e = .returned (.bool x.pend) ∧ Fr [] w w' := by
  unfold MarkD.pend MarkD.val
  have hr := (Fr.refl [] w).alloc (.cells #[.bool x.inn, .int .i64 x.age, .int .i64 x.due] 52)
  have HR := Lib.hid hr
  clear hr
  cases hi : x.inn
  · rw [hi] at HR
    go_enter Try.func70, Try.ntmps70
    go_wp2_with fail
    go_ret
    exact ⟨rfl, HR.out⟩
  · rw [hi] at HR
    go_enter Try.func70, Try.ntmps70
    go_wp2_with fail
    go_ret
    exact ⟨rfl, HR.out⟩
theorem agg52 (w : World) : (isAgg 52).run Try.prog w = .ok true w := by kernel_rfl
theorem size52 : (Try.prog.info? 52).map (·.size) = some 3 := by kernel_rfl
theorem zero52 : (Try.prog.info? 52).map (fun i => (i.size, i.zero.map (·.cells.size))) = some (3, some 3) := by kernel_rfl
theorem getD_at {α : Type} [Inhabited α] (M : List α) (j : Nat) (h : j < M.length) : M[j]? = some (M.getD j default) := by
  rw [List.getD_eq_getElem?_getD, List.getElem?_eq_getElem h]
  rfl
theorem take_succD {α : Type} [Inhabited α] (M : List α) (j : Nat) (h : j < M.length) : M.take (j + 1) = M.take j ++ [M.getD j default] := by
  have h2 := getD_at M j h
  have hl := List.getElem?_eq_some_iff.1 h2
  rw [List.take_succ_eq_append_getElem hl.1, hl.2]
theorem index_bad (a : Option Addr) (n c : Nat) (M : List MarkD) (w : World) (h : MarksAt w a n M) (hn : n ≤ 100000) :
    Calls Try.prog 86 #[.slice a n c, .func (.func 68) #[] #[]] w fun e w' => ∃ r : Int, e = .returned (.int .i64 r) ∧ decide (r ≥ 0) = M.any MarkD.bad ∧ Fr [] w w' := by
  obtain ⟨hl, hR⟩ := h
  have R := Lib.hid hR
  have HL := Lib.hid hl
  clear hR hl
  go_enter Try.func86, Try.ntmps86
  go_wp2_with fail
  go_loopg [8] n (fun k i wr => ∃ j : Nat, k = n - j ∧ j ≤ n ∧ i = .int .i64 j ∧ (M.take j).any MarkD.bad = false ∧ Fr [] w wr)
  case atStart => exact ⟨0, rfl, by omega, rfl, by simp, Fr.refl _ _⟩
  case round =>
    obtain ⟨j, rfl, hj, rfl, hp, hF⟩ := hrel
    have P := Lib.hid hp
    have F := Lib.hid hF
    clear hp hF
    by_cases hjn : j < n
    · have hd : decide (j < n) = true := by rw [decide_eq_true_iff]; omega
      obtain ⟨b1, o1, rfl, hb1, hc1⟩ := (R.out.fr F.out).at_ (by omega)
      have hc := hc1 j hjn
      have ht := take_succD M j (by rw [HL.out]; exact hjn)
      generalize M.getD j default = x at hc ht
      have hc' : ∀ k v, ([.bool x.inn, .int .i64 x.age, .int .i64 x.due] : List Value)[k]? = some v → wr.cell? ⟨b1, o1 + j * 3 + k, none⟩ = some v := hc
      have HC := Lib.hid hc'
      have HT := Lib.hid ht
      clear hc hc' hc1 ht
      go_wp2_with ((with_reducible refine wpList_load_at rfl 52 (.tmp 14) rfl agg52 3 size52 b1 (o1 + j * 3) [.bool x.inn, .int .i64 x.age, .int .i64 x.due] rfl HC.out ?_ ?_); exact rfl)
      refine (badf_any x wr).mono ?_
      rintro e w2 ⟨rfl, hF2⟩
      have F2 := Lib.hid (F.out.trans hF2 (by simp))
      clear hF2
      by_cases hx : x.bad = true
      · rw [hx]
        go_wp2_with fail
        go_ret
        refine ⟨j, rfl, ?_, F2.out⟩
        have hm : M.any MarkD.bad = true := by
          rw [← List.take_append_drop (j + 1) M, HT.out, List.any_append, List.any_append]
          simp [hx]
        rw [hm, decide_eq_true_iff]
        omega
      · have hx : x.bad = false := by simpa using hx
        rw [hx]
        go_wp2_with fail
        go_roundg (n - (j + 1))
        case measure => omega
        case rel => exact ⟨j + 1, rfl, by omega, rfl, by rw [HT.out, List.any_append, P.out]; simp [hx], F2.out⟩
    · have hd : decide (j < n) = false := by rw [decide_eq_false_iff_not]; omega
      have hfull : M.take j = M := List.take_of_length_le (by rw [HL.out]; omega)
      have hp := P.out
      rw [hfull] at hp
      have HP := Lib.hid hp
      clear hfull hp
      go_wp2_with fail
      go_ret
      exact ⟨-1, rfl, by rw [HP.out]; decide, F.out⟩
theorem has_bad (a : Option Addr) (n c : Nat) (M : List MarkD) (w : World) (h : MarksAt w a n M) (hn : n ≤ 100000) :
    Calls Try.prog 67 #[.slice a n c, .func (.func 68) #[] #[]] w fun e w' => e = .returned (.bool (M.any MarkD.bad)) ∧ Fr [] w w' := by
  have C1 := index_bad a n c M w h hn
  clear h
  go_enter Try.func67, Try.ntmps67
  go_wp2_with fail
  refine C1.mono ?_
  rintro e w2 ⟨r, rfl, hr, hF⟩
  go_wp2_with fail
  go_ret
  exact ⟨rfl, hF⟩
theorem index_pend (a : Option Addr) (n c : Nat) (M : List MarkD) (w : World) (h : MarksAt w a n M) (hn : n ≤ 100000) :
    Calls Try.prog 86 #[.slice a n c, .func (.func 70) #[] #[]] w fun e w' => ∃ r : Int, e = .returned (.int .i64 r) ∧ decide (r ≥ 0) = M.any MarkD.pend ∧ Fr [] w w' := by
  obtain ⟨hl, hR⟩ := h
  have R := Lib.hid hR
  have HL := Lib.hid hl
  clear hR hl
  go_enter Try.func86, Try.ntmps86
  go_wp2_with fail
  go_loopg [8] n (fun k i wr => ∃ j : Nat, k = n - j ∧ j ≤ n ∧ i = .int .i64 j ∧ (M.take j).any MarkD.pend = false ∧ Fr [] w wr)
  case atStart => exact ⟨0, rfl, by omega, rfl, by simp, Fr.refl _ _⟩
  case round =>
    obtain ⟨j, rfl, hj, rfl, hp, hF⟩ := hrel
    have P := Lib.hid hp
    have F := Lib.hid hF
    clear hp hF
    by_cases hjn : j < n
    · have hd : decide (j < n) = true := by rw [decide_eq_true_iff]; omega
      obtain ⟨b1, o1, rfl, hb1, hc1⟩ := (R.out.fr F.out).at_ (by omega)
      have hc := hc1 j hjn
      have ht := take_succD M j (by rw [HL.out]; exact hjn)
      generalize M.getD j default = x at hc ht
      have hc' : ∀ k v, ([.bool x.inn, .int .i64 x.age, .int .i64 x.due] : List Value)[k]? = some v → wr.cell? ⟨b1, o1 + j * 3 + k, none⟩ = some v := hc
      have HC := Lib.hid hc'
      have HT := Lib.hid ht
      clear hc hc' hc1 ht
      go_wp2_with ((with_reducible refine wpList_load_at rfl 52 (.tmp 14) rfl agg52 3 size52 b1 (o1 + j * 3) [.bool x.inn, .int .i64 x.age, .int .i64 x.due] rfl HC.out ?_ ?_); exact rfl)
      refine (pendf_any x wr).mono ?_
      rintro e w2 ⟨rfl, hF2⟩
      have F2 := Lib.hid (F.out.trans hF2 (by simp))
      clear hF2
      by_cases hx : x.pend = true
      · rw [hx]
        go_wp2_with fail
        go_ret
        refine ⟨j, rfl, ?_, F2.out⟩
        have hm : M.any MarkD.pend = true := by
          rw [← List.take_append_drop (j + 1) M, HT.out, List.any_append, List.any_append]
          simp [hx]
        rw [hm, decide_eq_true_iff]
        omega
      · have hx : x.pend = false := by simpa using hx
        rw [hx]
        go_wp2_with fail
        go_roundg (n - (j + 1))
        case measure => omega
        case rel => exact ⟨j + 1, rfl, by omega, rfl, by rw [HT.out, List.any_append, P.out]; simp [hx], F2.out⟩
    · have hd : decide (j < n) = false := by rw [decide_eq_false_iff_not]; omega
      have hfull : M.take j = M := List.take_of_length_le (by rw [HL.out]; omega)
      have hp := P.out
      rw [hfull] at hp
      have HP := Lib.hid hp
      clear hfull hp
      go_wp2_with fail
      go_ret
      exact ⟨-1, rfl, by rw [HP.out]; decide, F.out⟩
theorem has_pend (a : Option Addr) (n c : Nat) (M : List MarkD) (w : World) (h : MarksAt w a n M) (hn : n ≤ 100000) :
    Calls Try.prog 67 #[.slice a n c, .func (.func 70) #[] #[]] w fun e w' => e = .returned (.bool (M.any MarkD.pend)) ∧ Fr [] w w' := by
  have C1 := index_pend a n c M w h hn
  clear h
  go_enter Try.func67, Try.ntmps67
  go_wp2_with fail
  refine C1.mono ?_
  rintro e w2 ⟨r, rfl, hr, hF⟩
  go_wp2_with fail
  go_ret
  exact ⟨rfl, hF⟩
/-- A graph without groups, as it lies: its events, its ties. -/
structure FlatD where
  ea : Option Addr
  en : Nat
  ec : Nat
  ta : Option Addr
  tn : Nat
  tc : Nat
  E : List EvD
  T : List TieD
def FlatD.val (f : FlatD) : Value := .agg #[.slice f.ea f.en f.ec, .slice f.ta f.tn f.tc]
structure FlatAt (w : World) (f : FlatD) : Prop where
  evs : EvsAt w f.ea f.en f.E
  ties : TiesAt w f.ta f.tn f.T
  few : f.en ≤ 100000
  few2 : f.tn ≤ 100000
theorem FlatAt.fr {w w' : World} {f : FlatD} (h : FlatAt w f) (g : Fr [] w w') : FlatAt w' f := ⟨h.evs.fr g, h.ties.fr g, h.few, h.few2⟩
def fitsB (k : Nat) (M : List MarkD) : Bool := decide (M.length = k) && !M.any MarkD.bad
theorem fits_any (f : FlatD) (a : Option Addr) (n c : Nat) (M : List MarkD) (w : World) (h : MarksAt w a n M) (hn : n ≤ 100000) :
    Calls Try.prog 20 #[f.val, .slice a n c] w fun e w' => e = .returned (.bool (fitsB f.en M)) ∧ Fr [] w w' := by
  have hl := h.1
  have hr := (Fr.refl [] w).alloc (.cells #[.slice f.ea f.en f.ec, .slice f.ta f.tn f.tc] 25)
  have C1 := has_bad a n c M _ (h.fr hr) hn
  have HR := Lib.hid hr
  have hb : fitsB f.en M = (decide (n = f.en) && !M.any MarkD.bad) := by unfold fitsB; rw [hl]
  rw [hb]
  unfold FlatD.val
  clear h hr hl hb
  generalize M.any MarkD.bad = p at C1 ⊢
  by_cases he : n = f.en
  · subst he
    rw [decide_eq_true rfl]
    go_enter Try.func20, Try.ntmps20
    go_wp2_with fail
    refine C1.mono ?_
    rintro e w2 ⟨rfl, hF⟩
    go_wp2_with fail
    go_ret
    exact ⟨ret_bool (by simp), HR.out.trans hF (by simp)⟩
  · have hd : ((n : Int) == (f.en : Int)) = false := by rw [beq_eq_false_iff_ne]; omega
    rw [decide_eq_false he]
    go_enter Try.func20, Try.ntmps20
    go_wp2_with fail
    go_ret
    exact ⟨ret_bool (by simp), HR.out⟩
def accB (k : Nat) (M : List MarkD) : Bool := fitsB k M && !M.any MarkD.pend
theorem acc_any (f : FlatD) (a : Option Addr) (n c : Nat) (M : List MarkD) (w : World) (h : MarksAt w a n M) (hn : n ≤ 100000) :
    Calls Try.prog 24 #[f.val, .slice a n c] w fun e w' => e = .returned (.bool (accB f.en M)) ∧ Fr [] w w' := by
  have hr := (Fr.refl [] w).alloc (.cells #[.slice f.ea f.en f.ec, .slice f.ta f.tn f.tc] 25)
  have h1 := h.fr hr
  have C1 := fits_any f a n c M _ h1 hn
  have C2 := Lib.hid (fun w' hf => has_pend a n c M w' (h1.fr hf) hn)
  have HR := Lib.hid hr
  unfold accB
  clear h hr h1
  generalize fitsB f.en M = q at C1 ⊢
  unfold FlatD.val at C1 ⊢
  go_enter Try.func24, Try.ntmps24
  go_wp2_with fail
  refine C1.mono ?_
  rintro e w2 ⟨rfl, hF⟩
  cases q
  · go_wp2_with fail
    go_ret
    exact ⟨rfl, HR.out.trans hF (by simp)⟩
  · go_wp2_with fail
    refine (C2.out w2 hF).mono ?_
    rintro e w3 ⟨rfl, hF2⟩
    go_wp2_with fail
    go_ret
    exact ⟨rfl, (HR.out.trans hF (by simp)).trans hF2 (by simp)⟩
end Go.Proofs.Ytclkahggfdnpgaa
set_option linter.unusedVariables false
set_option linter.unusedSimpArgs false
namespace Go.Proofs.Ytclkahggfdnpgaa
open Go.RowKit
def TieD.between (t : TieD) (k : Nat) : Bool := decide (0 ≤ t.src ∧ t.src < k ∧ 0 ≤ t.dst ∧ t.dst < k)
theorem ties_any (f : FlatD) (t : TieD) (w : World) : Calls Try.prog 65 #[f.val, t.val] w fun e w' => e = .returned (.bool (t.between f.en)) ∧ Fr [] w w' := by
  have hr := ((Fr.refl [] w).alloc (.cells #[.slice f.ea f.en f.ec, .slice f.ta f.tn f.tc] 25)).alloc (.cells #[.int .i64 t.kind, .int .i64 t.src, .int .i64 t.dst, .int .i64 t.time] 57)
  have HR := Lib.hid hr
  clear hr
  unfold FlatD.val TieD.val
  by_cases hb : 0 ≤ t.src ∧ t.src < f.en ∧ 0 ≤ t.dst ∧ t.dst < f.en
  · have hB : t.between f.en = true := by unfold TieD.between; exact decide_eq_true hb
    rw [hB]
    obtain ⟨h1, h2, h3, h4⟩ := hb
    clear hB
    go_enter Try.func65, Try.ntmps65
    go_wp2_with fail
    all_goals
      go_ret
      exact ⟨rfl, HR.out⟩
  · have hB : t.between f.en = false := by unfold TieD.between; exact decide_eq_false hb
    rw [hB]
    clear hB
    by_cases h1 : t.src < 0
    · clear hb
      go_enter Try.func65, Try.ntmps65
      go_wp2_with fail
      all_goals
        go_ret
        exact ⟨rfl, HR.out⟩
    · by_cases h2 : t.dst < 0
      · clear hb
        go_enter Try.func65, Try.ntmps65
        go_wp2_with fail
        all_goals
          go_ret
          exact ⟨rfl, HR.out⟩
      · have h3 : (f.en : Int) ≤ t.src ∨ (f.en : Int) ≤ t.dst := by omega
        clear hb
        rcases h3 with h3 | h3
        all_goals
          go_enter Try.func65, Try.ntmps65
          go_wp2_with fail
          all_goals
            go_ret
            first | exact ⟨rfl, HR.out⟩ | exact ⟨ret_bool (by rw [decide_eq_false_iff_not]; omega), HR.out⟩
/-- Does a tie let what it leads to be done, where its first event's mark is x? -/
def TieD.free (t : TieD) (x : MarkD) : Bool := !x.inn || (if t.kind = 1 then decide (x.age ≥ 0) && decide (x.age ≥ t.time) else if t.kind = 5 then decide (x.due < 0) else true)
theorem free_any (a : Option Addr) (n c : Nat) (M : List MarkD) (t : TieD) (w : World) (h : MarksAt w a n M) (h0 : 0 ≤ t.src) (h1 : t.src < n) :
    Calls Try.prog 66 #[.slice a n c, t.val] w fun e w' => e = .returned (.bool (t.free (M.getD t.src.toNat default))) ∧ Fr [] w w' := by
  obtain ⟨k, hk⟩ := Int.eq_ofNat_of_zero_le h0
  have hkn : k < n := by omega
  have hr := (Fr.refl [] w).alloc (.cells #[.int .i64 t.kind, .int .i64 t.src, .int .i64 t.dst, .int .i64 t.time] 57)
  obtain ⟨b1, o1, rfl, hb1, hc1⟩ := (h.2.fr hr).at_ (by omega)
  have hc := hc1 k hkn
  rw [show t.src.toNat = k by omega]
  generalize M.getD k default = x at hc
  have hc' : ∀ k' v, ([.bool x.inn, .int .i64 x.age, .int .i64 x.due] : List Value)[k']? = some v → (w.alloc (.cells #[.int .i64 t.kind, .int .i64 t.src, .int .i64 t.dst, .int .i64 t.time] 57)).cell? ⟨b1, o1 + k * 3 + k', none⟩ = some v := hc
  have HC := Lib.hid hc'
  have HR := Lib.hid hr
  have hd0 : t.src.toNat = k := by omega
  clear hc hc' hc1 hr h
  obtain ⟨kind, src, dst, time⟩ := t
  simp only at hk h0 h1 HC HR hd0 ⊢
  subst hk
  unfold TieD.val
  clear hd0
  go_enter Try.func66, Try.ntmps66
  go_wp2_with (first | ((with_reducible refine wpList_load_at rfl 52 (.tmp 9) rfl agg52 3 size52 b1 (o1 + k * 3) [.bool x.inn, .int .i64 x.age, .int .i64 x.due] rfl HC.out ?_ ?_); exact rfl) | ((with_reducible refine wpList_var_agg rfl rfl 52 (.tmp 5) (.tmp 10) rfl rfl 3 zero52 [.bool x.inn, .int .i64 x.age, .int .i64 x.due] rfl ?_ ?_ ?_ ?_); (intro u hu; simp at hu; rcases hu with rfl | rfl | rfl <;> rfl); exact rfl; exact rfl))
  intro w2 hr2 hs2 hf2
  have ht2 := (Row.new w [.int .i64 kind, .int .i64 k, .int .i64 dst, .int .i64 time] 57).fr hf2 (by simp)
  have F2 := Lib.hid (HR.out.trans hf2 (by simp))
  have p0 : w2.cell? ⟨w.heap.size, 0, none⟩ = some (.int .i64 kind) := ht2.cell 0
  have p3 : w2.cell? ⟨w.heap.size, 3, none⟩ = some (.int .i64 time) := ht2.cell 3
  have q0 : w2.cell? ⟨w.heap.size + 1, 0, none⟩ = some (.bool x.inn) := hr2.cell 0
  have q1 : w2.cell? ⟨w.heap.size + 1, 1, none⟩ = some (.int .i64 x.age) := hr2.cell 1
  have q2 : w2.cell? ⟨w.heap.size + 1, 2, none⟩ = some (.int .i64 x.due) := hr2.cell 2
  clear hr2 hs2 hf2 ht2 hb1 HC
  cases hi : x.inn
  · rw [hi] at q0
    have HI := Lib.hid hi
    clear hi
    go_wp2_with fail
    go_ret
    exact ⟨ret_bool (by simp [TieD.free, HI.out]), F2.out⟩
  · rw [hi] at q0
    have HI := Lib.hid hi
    clear hi
    by_cases k1 : kind = 1
    · have e1 : (kind == 1) = true := by simpa using k1
      have K1 := Lib.hid k1
      clear k1
      by_cases ha : x.age ≥ 0
      · have d1 : decide (x.age ≥ 0) = true := by simpa using ha
        by_cases hb : x.age ≥ time
        · have d2 : decide (x.age ≥ time) = true := by simpa using hb
          go_wp2_with fail
          go_ret
          exact ⟨ret_bool (by simp [TieD.free, HI.out, K1.out]; omega), F2.out⟩
        · have d2 : decide (x.age ≥ time) = false := by simpa using hb
          go_wp2_with fail
          go_ret
          exact ⟨ret_bool (by simp [TieD.free, HI.out, K1.out]; omega), F2.out⟩
      · have d1 : decide (x.age ≥ 0) = false := by simpa using ha
        go_wp2_with fail
        go_ret
        exact ⟨ret_bool (by simp [TieD.free, HI.out, K1.out]; omega), F2.out⟩
    · have e1 : (kind == 1) = false := by simpa using k1
      have K1 := Lib.hid k1
      clear k1
      by_cases k5 : kind = 5
      · have e5 : (kind == 5) = true := by simpa using k5
        have K5 := Lib.hid k5
        clear k5
        by_cases hb : x.due < 0
        · have d2 : decide (x.due < 0) = true := by simpa using hb
          go_wp2_with fail
          go_ret
          exact ⟨ret_bool (by simp [TieD.free, HI.out, K5.out]; omega), F2.out⟩
        · have d2 : decide (x.due < 0) = false := by simpa using hb
          go_wp2_with fail
          go_ret
          exact ⟨ret_bool (by simp [TieD.free, HI.out, K5.out]; omega), F2.out⟩
      · have e5 : (kind == 5) = false := by simpa using k5
        have K5 := Lib.hid k5
        clear k5
        go_wp2_with fail
        go_ret
        exact ⟨ret_bool (by simp [TieD.free, HI.out, K1.out, K5.out]), F2.out⟩
/-- Does a tie bar event at? -/
def TieD.bars (t : TieD) (k : Nat) (at' : Int) (M : List MarkD) : Bool := t.between k && decide (t.dst = at') && !t.free (M.getD t.src.toNat default)
/-- What Enabled's inner function has at hand. -/
structure Caught (w : World) (bf ba bm : Nat) (f : FlatD) (at' : Int) (a : Option Addr) (n c : Nat) : Prop where
  f0 : w.cell? ⟨bf, 0, none⟩ = some (.slice f.ea f.en f.ec)
  f1 : w.cell? ⟨bf, 1, none⟩ = some (.slice f.ta f.tn f.tc)
  a0 : w.cell? ⟨ba, 0, none⟩ = some (.int .i64 at')
  m0 : w.cell? ⟨bm, 0, none⟩ = some (.slice a n c)
theorem cell_fr {w w' : World} {p : Addr} {v : Value} (h : w.cell? p = some v) (f : Fr [] w w') : w'.cell? p = some v := by
  rw [World.cell?_of_block (f.block p.block (World.block_lt_of_cell? w p h) (by simp))]; exact h
theorem Caught.fr {w w' : World} {bf ba bm : Nat} {f : FlatD} {at' : Int} {a : Option Addr} {n c : Nat} (h : Caught w bf ba bm f at' a n c) (g : Fr [] w w') : Caught w' bf ba bm f at' a n c :=
  ⟨cell_fr h.f0 g, cell_fr h.f1 g, cell_fr h.a0 g, cell_fr h.m0 g⟩
theorem barf_any (bf ba bm : Nat) (f : FlatD) (at' : Int) (a : Option Addr) (n c : Nat) (M : List MarkD) (t : TieD) (w : World) (hc : Caught w bf ba bm f at' a n c) (h : MarksAt w a n M) (hen : f.en = n) :
    Calls Try.prog 64 #[t.val, .pointer (some ⟨bf, 0, none⟩), .pointer (some ⟨ba, 0, none⟩), .pointer (some ⟨bm, 0, none⟩)] w fun e w' => e = .returned (.bool (t.bars f.en at' M)) ∧ Fr [] w w' := by
  have hr := (Fr.refl [] w).alloc (.cells #[.int .i64 t.kind, .int .i64 t.src, .int .i64 t.dst, .int .i64 t.time] 57)
  have hc1 := hc.fr hr
  have C1 := ties_any f t (w.alloc (.cells #[.int .i64 t.kind, .int .i64 t.src, .int .i64 t.dst, .int .i64 t.time] 57))
  have hM := h.fr hr
  have HR := Lib.hid hr
  have HM := Lib.hid hM
  have HC := Lib.hid hc1
  obtain ⟨f0, f1, a0, m0⟩ := hc1
  have ht := Row.new w [.int .i64 t.kind, .int .i64 t.src, .int .i64 t.dst, .int .i64 t.time] 57
  have HT := Lib.hid ht
  have HEN := Lib.hid hen
  clear hc h hr hM ht hen
  by_cases hb : t.between f.en = true
  · rw [hb] at C1
    have hbb : 0 ≤ t.src ∧ t.src < f.en ∧ 0 ≤ t.dst ∧ t.dst < f.en := by unfold TieD.between at hb; exact of_decide_eq_true hb
    have HB := Lib.hid hb
    have HBB := Lib.hid hbb
    clear hb hbb
    by_cases hd : t.dst = at'
    · have ed : (t.dst == at') = true := by simpa using hd
      have HD := Lib.hid hd
      clear hd
      unfold TieD.val FlatD.val at C1
      unfold TieD.val
      go_enter Try.func64, Try.ntmps64
      go_wp2_with fail
      refine C1.mono ?_
      rintro e w2 ⟨rfl, hF⟩
      have c0 := HC.out.fr hF
      obtain ⟨g0, g1, ga, gm⟩ := c0
      have t0 : w2.cell? ⟨w.heap.size, 0, none⟩ = some (.int .i64 t.kind) := (HT.out.fr hF (by simp)).cell 0
      have t1 : w2.cell? ⟨w.heap.size, 1, none⟩ = some (.int .i64 t.src) := (HT.out.fr hF (by simp)).cell 1
      have t2 : w2.cell? ⟨w.heap.size, 2, none⟩ = some (.int .i64 t.dst) := (HT.out.fr hF (by simp)).cell 2
      have t3 : w2.cell? ⟨w.heap.size, 3, none⟩ = some (.int .i64 t.time) := (HT.out.fr hF (by simp)).cell 3
      have F2 := Lib.hid (HR.out.trans hF (by simp))
      have C2 := free_any a n c M t w2 (HM.out.fr hF) HBB.out.1 (by have := HEN.out; have := HBB.out; omega)
      generalize hfree : t.free (M.getD t.src.toNat default) = fr at C2
      have HFR := Lib.hid hfree
      unfold TieD.val at C2
      clear hF C1 hfree
      go_wp2_with fail
      refine C2.mono ?_
      rintro e w3 ⟨rfl, hF⟩
      go_wp2_with fail
      go_ret
      exact ⟨ret_bool (by unfold TieD.bars; rw [HB.out, HFR.out, HD.out]; simp), F2.out.trans hF (by simp)⟩
    · have ed : (t.dst == at') = false := by simpa using hd
      have HD := Lib.hid hd
      clear hd
      unfold TieD.val FlatD.val at C1
      unfold TieD.val
      go_enter Try.func64, Try.ntmps64
      go_wp2_with fail
      refine C1.mono ?_
      rintro e w2 ⟨rfl, hF⟩
      have c0 := HC.out.fr hF
      obtain ⟨g0, g1, ga, gm⟩ := c0
      have t2 : w2.cell? ⟨w.heap.size, 2, none⟩ = some (.int .i64 t.dst) := (HT.out.fr hF (by simp)).cell 2
      have F2 := Lib.hid (HR.out.trans hF (by simp))
      clear hF C1
      go_wp2_with fail
      go_ret
      exact ⟨ret_bool (by unfold TieD.bars; rw [HB.out]; simp [HD.out]), F2.out⟩
  · have hb : t.between f.en = false := by simpa using hb
    rw [hb] at C1
    have HB := Lib.hid hb
    clear hb
    unfold TieD.val FlatD.val at C1
    unfold TieD.val
    go_enter Try.func64, Try.ntmps64
    go_wp2_with fail
    refine C1.mono ?_
    rintro e w2 ⟨rfl, hF⟩
    go_wp2_with fail
    go_ret
    exact ⟨ret_bool (by unfold TieD.bars; rw [HB.out]; simp), HR.out.trans hF (by simp)⟩
end Go.Proofs.Ytclkahggfdnpgaa
