/- Words on memory: a frame that names the blocks that may turn ('Fr'), whole blocks ('Row'). No program in sight. -/
import Derived.WalkKit
import Derived.WalkSpells
import Derived.WalkLawsBesides
import Derived.Laws.CopyOwn
import Derived.Deep.Draws
import Derived.Lib.Hide
import Derived.Lib.ConvBytes
import Derived.Deep.QuietTactic
import Derived.BigQuiet
namespace Go.Proofs.Ytclkahggfdnpgaa
open Go.RowKit

/-- Of the blocks that were there in w, those outside S are in w' as they were. -/
structure Fr (S : List Nat) (w w' : World) : Prop where
  os : w'.os = w.os
  tape : w'.tape = w.tape
  output : w'.output = w.output
  size : w.heap.size ≤ w'.heap.size
  block : ∀ k, k < w.heap.size → k ∉ S → w'.heap[k]? = w.heap[k]?

theorem Fr.refl (S : List Nat) (w : World) : Fr S w w := ⟨rfl, rfl, rfl, Nat.le_refl _, fun _ _ _ => rfl⟩
theorem Fr.trans {S T : List Nat} {a b c : World} (h : Fr S a b) (k : Fr T b c) (hT : ∀ x, x ∈ T → x ∈ S ∨ a.heap.size ≤ x) : Fr S a c :=
  ⟨k.os.trans h.os, k.tape.trans h.tape, k.output.trans h.output, Nat.le_trans h.size k.size, fun i hi hS => by
    rw [k.block i (Nat.lt_of_lt_of_le hi h.size) (fun hx => by rcases hT i hx with h' | h'; exact hS h'; omega)]
    exact h.block i hi hS⟩
theorem Fr.mono {S T : List Nat} {a b : World} (h : Fr S a b) (hT : ∀ x, x ∈ S → x ∈ T ∨ a.heap.size ≤ x) : Fr T a b :=
  ⟨h.os, h.tape, h.output, h.size, fun i hi hS => h.block i hi (fun hx => by rcases hT i hx with h' | h'; exact hS h'; omega)⟩
theorem Fr.alloc {S : List Nat} {a w : World} (h : Fr S a w) (o : Obj) : Fr S a (w.alloc o) :=
  h.trans (T := []) ⟨rfl, rfl, rfl, by simp, fun k hk _ => Below.heap_alloc _ _ _ hk⟩ (by simp)
theorem Fr.setCell {S : List Nat} {a w : World} (h : Fr S a w) {p : Addr} (hp : p.block ∈ S ∨ a.heap.size ≤ p.block) (u : Value) : Fr S a (w.setCell p u) :=
  h.trans (T := [p.block]) ⟨rfl, rfl, rfl, by simp, fun k _ hk => Below.heap_setCell _ _ _ _ (by simpa using hk)⟩ (by simpa using hp)
theorem Fr.setRow {S : List Nat} {a w : World} (h : Fr S a w) {g : Nat} (hp : g ∈ S ∨ a.heap.size ≤ g) (cs : Array Value) : Fr S a (w.setRow g cs) :=
  h.trans (T := [g]) ⟨rfl, rfl, rfl, by simp, fun k _ hk => setRow_other w g k cs (by simpa using hk)⟩ (by simpa using hp)
theorem Fr.drew {S : List Nat} {a w : World} (h : Fr S a w) : Fr S a w.drew := ⟨h.os, h.tape, h.output, h.size, h.block⟩
theorem Fr.drewN {S : List Nat} {a w : World} (h : Fr S a w) (n : Nat) : Fr S a (w.drewN n) := ⟨h.os, h.tape, h.output, h.size, h.block⟩
theorem Fr.below {S : List Nat} {B : Nat} {w w' : World} (h : Fr S w w') (hS : ∀ x, x ∈ S → B ≤ x) (hB : B ≤ w.heap.size) : Below B w w' :=
  ⟨h.os, h.tape, h.output, h.size, fun k hk => h.block k (by omega) (fun hx => by have := hS k hx; omega)⟩
theorem Fr.of_below {w w' : World} (h : Below w.heap.size w w') (S : List Nat) : Fr S w w' := ⟨h.os, h.tape, h.output, h.size, fun k hk _ => h.block k hk⟩
theorem Fr.nil_below {w w' : World} (h : Fr [] w w') : Below w.heap.size w w' := h.below (by simp) (Nat.le_refl _)
theorem Fr.of_grown {w w' : World} {row : Option Nat} (h : w.grownBy w' row) (S : List Nat) (hr : ∀ k, row = some k → k ∈ S ∨ w.heap.size ≤ k) : Fr S w w' :=
  ⟨h.os, h.tape, h.output, h.size, fun k hk hS => h.block k hk (fun e => by rcases hr k e.symm with h' | h'; exact hS h'; omega)⟩

/-- Block g holds the cells C. -/
def Row (w : World) (g : Nat) (C : List Value) (t : TypeId) : Prop := w.heap[g]? = some (.cells C.toArray t (0, 0))
theorem Row.lt {w : World} {g : Nat} {C : List Value} {t : TypeId} (h : Row w g C t) : g < w.heap.size := (Array.getElem?_eq_some_iff.1 h).1
theorem Row.cell {w : World} {g : Nat} {C : List Value} {t : TypeId} (h : Row w g C t) (j : Nat) : w.cell? ⟨g, j, none⟩ = C[j]? := by
  rw [cell_of_row w g j _ t _ h]; simp
theorem Row.frozen {w : World} {g : Nat} {C : List Value} {t : TypeId} (h : Row w g C t) (j : Nat) : w.frozen? ⟨g, j, none⟩ = false := frozen_of_row w g j _ t h
theorem Row.fr {S : List Nat} {w w' : World} {g : Nat} {C : List Value} {t : TypeId} (h : Row w g C t) (f : Fr S w w') (hg : g ∉ S) : Row w' g C t :=
  (f.block g h.lt hg).trans h
theorem Row.below {w w' : World} {B g : Nat} {C : List Value} {t : TypeId} (h : Row w g C t) (f : Below B w w') (hg : g < B) : Row w' g C t :=
  (f.block g hg).trans h
theorem Row.setCell {w : World} {g : Nat} {C : List Value} {t : TypeId} (h : Row w g C t) (j : Nat) (v : Value) : Row (w.setCell ⟨g, j, none⟩ v) g (C.set j v) t := by
  unfold Row at *
  rw [heap_setCell_same w g j _ t v h]
  simp
theorem Row.setCell_other {w : World} {g : Nat} {C : List Value} {t : TypeId} (h : Row w g C t) (a : Addr) (v : Value) (hg : g ≠ a.block) : Row (w.setCell a v) g C t := by
  unfold Row at *
  rw [heap_setCell_other w a g v hg]
  exact h
theorem Row.setRow {w : World} {g : Nat} {C : List Value} {t : TypeId} (h : Row w g C t) (D : List Value) : Row (w.setRow g D.toArray) g D t := setRow_heap w g _ _ t _ h
theorem Row.setRow_other {w : World} {g k : Nat} {C : List Value} {t : TypeId} (h : Row w g C t) (D : Array Value) (hg : g ≠ k) : Row (w.setRow k D) g C t := by
  unfold Row at *
  rw [_root_.Go.setRow_other w k g D hg]
  exact h
theorem Row.alloc {w : World} {g : Nat} {C : List Value} {t : TypeId} (h : Row w g C t) (o : Obj) : Row (w.alloc o) g C t := by
  unfold Row at *
  rw [Below.heap_alloc w o g (Array.getElem?_eq_some_iff.1 h).1]
  exact h
theorem Row.new (w : World) (C : List Value) (t : TypeId) : Row (w.alloc (.cells C.toArray t)) w.heap.size C t := heap_alloc_new _ _
theorem Row.drew {w : World} {g : Nat} {C : List Value} {t : TypeId} (h : Row w g C t) : Row w.drew g C t := h
theorem Row.drewN {w : World} {g : Nat} {C : List Value} {t : TypeId} (h : Row w g C t) (n : Nat) : Row (w.drewN n) g C t := h

/-- The bytes of a string as cells. -/
def bcells (s : List UInt8) : List Value := s.map fun b => .int .u8 b.toNat
theorem bcells_length (s : List UInt8) : (bcells s).length = s.length := by simp [bcells]
theorem bcells_one (s : List UInt8) : ∀ v ∈ bcells s, v.oneCell' = true := by
  intro v hv
  obtain ⟨_, _, rfl⟩ := List.mem_map.1 hv
  rfl

/-- 'copy(x, s)', s a string: its first bytes are laid over the row. -/
theorem run_copy_string (P : Program) (w : World) (dT sT ty elem : TypeId) (g o dLen dCap : Nat) (s : ByteArray) (cur : List Value) (t : TypeId)
    (hu : P.underlying dT = some (.slice elem)) (hs : (P.info? elem).map (·.size) = some 1)
    (hg : Row w g cur t) (hn : s.size ≤ dLen) (hfit : o + s.size ≤ cur.length) :
    (Builtin.copy_ #[dT, sT] ty #[.slice (some ⟨g, o, none⟩) dLen dCap, .string s]).run P w =
      .ok (goInt s.size) (w.setRow g (splice cur o (bcells s.data.toList)).toArray) := by
  have hl : (bcells s.data.toList).length = s.size := by rw [bcells_length]; rfl
  have hst := run_storeCells_at P g o t (bcells s.data.toList) 0 cur.toArray w hg (by simp [hl]; exact hfit) (bcells_one _)
  cases hq : P.info? elem with
  | none => simp [hq] at hs
  | some i =>
    have hi : i.size = 1 := by simpa [hq] using hs
    have hm : Nat.min s.size dLen = s.size := Nat.min_eq_left hn
    have hb : s.data.toList.map (fun b => Value.int .u8 b.toNat) = bcells s.data.toList := rfl
    have ht : (bcells s.data.toList).take s.size = bcells s.data.toList := List.take_of_length_le (by omega)
    simp [Builtin.copy_, run_underlying hu, Builtin.lenOf, Builtin.firstCells, sizeOf, typeInfo, hq, hm, hb, ht, hst, splice, hl]

theorem wpList_copy_str {P : Program} {w : World} {ops : Array Oper} {rest : List Oper} {o : Oper} {a : Act} {Q : Exit → Act → World → Prop} (hgd : o.guard = none) (d s : Operand) (dT sT : TypeId)
    (ho : o.op = .call { callee := .builtin .copy, args := #[d, s], argTypes := #[dT, sT] }) (elem : TypeId) (hu : P.underlying dT = some (.slice elem)) (hsz : (P.info? elem).map (·.size) = some 1)
    (g off dLen dCap : Nat) (str : ByteArray) (hd : a.eval d = .slice (some ⟨g, off, none⟩) dLen dCap) (hs : a.eval s = .string str)
    (cur : List Value) (t : TypeId) (hg : Row w g cur t) (hn : str.size ≤ dLen) (hfit : off + str.size ≤ cur.length)
    (h : ∀ w', Row w' g (splice cur off (bcells str.data.toList)) t → Fr [g] w w' → wpList P ops Q rest (a.put o.dst (goInt str.size)) w') : wpList P ops Q (o :: rest) a w := by
  refine wpList_plain hgd fun K hK => ?_
  have hrun := run_copy_string P w dT sT o.type elem g off dLen dCap str cur t hu hsz hg hn hfit
  unfold Oper.wp
  simp [execOp, ho, resolve, invoke, builtin, hd, hs, hrun, Result.andThen]
  exact hK _ _ (h _ (hg.setRow _) ((Fr.refl _ _).setRow (by simp) _))

theorem Addr_add (g o j : Nat) : (⟨g, o, none⟩ : Addr).add j = ⟨g, o + j, none⟩ := by unfold Addr.add; split <;> simp_all

/-- A struct or an array read as a value out of the middle of a block. -/
theorem run_loadVar_at (P : Program) (w : World) (ty g o : Nat) (cs : List Value) (hagg : ∀ w, (isAgg ty).run P w = .ok true w) (hc : ∀ j v, cs[j]? = some v → w.cell? ⟨g, o + j, none⟩ = some v)
    (hi : (P.info? ty).map (·.size) = some cs.length) :
    (loadVar ty ⟨g, o, none⟩).run P w = .ok (.agg cs.toArray) w := by
  have hl := run_loadCells_list (P := P) w ⟨g, o, none⟩ cs (fun j v hv => by rw [Addr_add]; exact hc j v hv)
  cases hq : P.info? ty with
  | none => simp [hq] at hi
  | some i =>
    have hs : i.size = cs.length := by simpa [hq] using hi
    simp [loadVar, Sem.run_bind, hagg w, sizeOf, typeInfo, hq, hs, hl]
theorem wpList_load_at {P : Program} {ops : Array Oper} {rest : List Oper} {o : Oper} {a : Act} {w : World} {Q : Exit → Act → World → Prop} (hgd : o.guard = none) (ty : TypeId) (x : Operand) (ho : o.op = .load ty x)
    (hagg : ∀ w, (isAgg ty).run P w = .ok true w) (n : Nat) (hi : (P.info? ty).map (·.size) = some n) (g off : Nat) (cs : List Value) (hn : cs.length = n)
    (hc : ∀ j v, cs[j]? = some v → w.cell? ⟨g, off + j, none⟩ = some v) (hx : a.eval x = .pointer (some ⟨g, off, none⟩))
    (h : wpList P ops Q rest (a.put o.dst (.agg cs.toArray)) w) : wpList P ops Q (o :: rest) a w := by
  refine wpList_plain hgd fun K hK => ?_
  unfold Oper.wp execOp
  simp only [ho, hx, Instr.loadAt, Instr.sureAddr, Sem.run_bind, Sem.run_pure, Result.andThen_ok, run_loadVar_at P w ty g off cs hagg hc (by rw [hi, hn])]
  exact hK _ _ h
/-- 'x := v', x a new variable in memory, v a struct or an array: its block is laid and filled. -/
theorem wpList_var_agg {P : Program} {ops : Array Oper} {rest : List Oper} {o o2 : Oper} {a : Act} {w : World} {Q : Exit → Act → World → Prop} (hgd : o.guard = none) (hgd2 : o2.guard = none) (ty : TypeId) (x v : Operand) (ho : o.op = .alloc ty) (ho2 : o2.op = .store ty x v)
    (n : Nat) (hi0 : (P.info? ty).map (fun i => (i.size, i.zero.map (·.cells.size))) = some (n, some n)) (cs : List Value) (hn : cs.length = n) (h1 : ∀ u ∈ cs, u.oneCell' = true)
    (hx : (a.put o.dst (.pointer (some ⟨w.heap.size, 0, none⟩))).eval x = .pointer (some ⟨w.heap.size, 0, none⟩)) (hv : (a.put o.dst (.pointer (some ⟨w.heap.size, 0, none⟩))).eval v = .agg cs.toArray)
    (h : ∀ w', Row w' w.heap.size cs ty → w'.heap.size = w.heap.size + 1 → Fr [] w w' → wpList P ops Q rest ((a.put o.dst (.pointer (some ⟨w.heap.size, 0, none⟩))).put o2.dst undef) w') : wpList P ops Q (o :: o2 :: rest) a w := by
  have hi : (P.info? ty).map (fun i => (i.size, i.zero.map (·.cells.size))) = some (cs.length, some cs.length) := by rw [hi0, hn]
  cases hq : P.info? ty with
  | none => simp [hq] at hi
  | some i =>
    have hs : i.size = cs.length := by rw [hq] at hi; simp at hi; exact hi.1
    cases hz : i.zero with
    | none => rw [hq] at hi; simp [hz] at hi
    | some z =>
      have hzs : z.cells.size = cs.length := by rw [hq] at hi; simp [hz] at hi; exact hi.2
      refine wpList_plain hgd fun K hK => ?_
      have hrun : (Instr.alloc ty true (.tuple #[])).run P w = .ok (.pointer (some ⟨w.heap.size, 0, none⟩)) (w.alloc (.cells z.cells ty)) := by
        simp [Instr.alloc, zeroValue, typeInfo, hq, hz, newVar, newRow]
      unfold Oper.wp
      simp only [execOp, ho, Sem.run_bind, hrun, Result.andThen_ok, Sem.run_pure, Oper.upon_value]
      refine hK _ _ ?_
      refine wpList_plain hgd2 fun K2 hK2 => ?_
      have hr : Row (w.alloc (.cells z.cells ty)) w.heap.size z.cells.toList ty := by
        have := Row.new w z.cells.toList ty
        simpa using this
      have hst := run_storeCells_at P w.heap.size 0 ty cs 0 z.cells.toList.toArray _ hr (by simp [hzs]) h1
      have hst2 : (storeVar ty ⟨w.heap.size, 0, none⟩ (.agg cs.toArray)).run P (w.alloc (.cells z.cells ty)) = .ok () ((w.alloc (.cells z.cells ty)).setRow w.heap.size cs.toArray) := by
        have hd : z.cells.toList.drop cs.length = [] := List.drop_eq_nil_of_le (by simp [hzs])
        have hst3 := hst
        simp [hd] at hst3
        have hc : (Value.agg cs.toArray).cells = cs.toArray := rfl
        simp [storeVar, hc, sizeOf, typeInfo, hq, hs, hst3]
      unfold Oper.wp
      simp only [execOp, ho2, hx, hv, Instr.storeAt, Instr.sureAddr, Sem.run_bind, Sem.run_pure, Result.andThen_ok, hst2, Oper.upon_skip]
      refine hK2 _ _ (h _ ?_ ?_ ?_)
      · exact hr.setRow cs
      · simp
      · exact ((Fr.refl _ _).alloc _).setRow (by simp) _

/-- A slice of bytes as a string. -/
theorem run_bytes_str (P : Program) (w : World) (src dst e g o len cap : Nat) (bs : List UInt8) (hs : P.underlying src = some (.slice e)) (he : P.underlying e = some (.int .u8)) (hd : P.underlying dst = some .string)
    (hl : bs.length = len) (hc : ∀ j v, (bcells bs)[j]? = some v → w.cell? ⟨g, o + j, none⟩ = some v) :
    (convert src dst (.slice (some ⟨g, o, none⟩) len cap)).run P w = .ok (.string ⟨bs.toArray⟩) w := by
  have h := run_convert_bytes_arg (P := P) w src e hs he g o len cap (bs.map fun b => (b.toNat : Int)) (by simpa using hl) (fun i hi => by
    refine hc i _ ?_
    have : i < bs.length := by omega
    simp [bcells, List.getElem?_eq_getElem this]) dst hd
  rw [h]
  congr 2
  unfold strOfNums
  congr 1
  congr 1
  rw [List.map_map]
  conv => rhs; rw [← List.map_id bs]
  apply List.map_congr_left
  intro b _
  simp
theorem wpList_bytes_str {P : Program} {ops : Array Oper} {rest : List Oper} {op : Oper} {a : Act} {w : World} {Q : Exit → Act → World → Prop} (hgd : op.guard = none) (src dst e : TypeId) (x : Operand) (ho : op.op = .convert src dst x)
    (hs : P.underlying src = some (.slice e)) (he : P.underlying e = some (.int .u8)) (hd : P.underlying dst = some .string) (bs : List UInt8) (g o len cap : Nat)
    (hl : bs.length = len) (hc : ∀ j v, (bcells bs)[j]? = some v → w.cell? ⟨g, o + j, none⟩ = some v) (hx : a.eval x = .slice (some ⟨g, o, none⟩) len cap)
    (h : wpList P ops Q rest (a.put op.dst (.string ⟨bs.toArray⟩)) w) : wpList P ops Q (op :: rest) a w := by
  refine wpList_plain hgd fun K hK => ?_
  unfold Oper.wp
  simp only [execOp, ho, hx, Sem.run_bind, Sem.run_pure, Result.andThen_ok, run_bytes_str P w src dst e g o len cap bs hs he hd hl hc]
  exact hK _ _ h

theorem madeCells_replicate (s n : Nat) (v : Value) (hs : 0 < s) : madeCells (Array.replicate s v) n = (List.replicate n v).toArray := by
  apply Array.ext
  · simp [madeCells]
  · intro i h1 h2
    have : i % s < s := Nat.mod_lt _ hs
    simp [madeCells, this]
/-- 'make([]T, n)' where T's zero value is of like cells. -/
theorem wpList_make_row {P : Program} {w : World} {ops : Array Oper} {rest : List Oper} {o : Oper} {a : Act} {Q : Exit → Act → World → Prop}
    (hg : o.guard = none) (l c : Operand) (t : TypeId) (hop : o.op = Op.makeSlice t l c) (e : TypeId) (h1 : P.underlying t = some (.slice e)) (z : Value) (s by_ : Nat)
    (hinfo : (P.info? e).map (fun i => (i.zero, i.size, i.bytes)) = some (some z, s, by_)) (v : Value) (hz : z.cells = Array.replicate s v) (hs : 0 < s)
    (kl kc : IntKind) (L C : Int) (n : Nat) (hL : L = (n : Int)) (hC : C = (n : Int)) (b2 : by_ * n ≤ 281474976710656) (b3 : n ≤ 9223372036854775807) (hl : a.eval l = .int kl L) (hc : a.eval c = .int kc C)
    (hK : ∀ w', Row w' w.heap.size (List.replicate (n * s) v) e → w'.heap.size = w.heap.size + 1 → Fr [] w w' → wpList P ops Q rest (a.put o.dst (.slice (some ⟨w.heap.size, 0, none⟩) n n)) w') :
    wpList P ops Q (o :: rest) a w := by
  obtain ⟨i, hi, hz0, hz1, hz2⟩ := info_parts hinfo
  refine wpList_plain hg fun K hK' => ?_
  subst hL
  subst hC
  have hb : (i.bytes : Int) * n ≤ 281474976710656 := by
    rw [hz2]
    have h : ((by_ * n : Nat) : Int) ≤ 281474976710656 := by omega
    rwa [Int.natCast_mul] at h
  have hrun := run_make (P := P) w t e i z h1 hi hz0 kl kc n n (by omega) (by omega) hb (by omega)
  rw [hz, hz1, Int.toNat_natCast, madeCells_replicate _ _ _ hs] at hrun
  unfold Oper.wp
  simp [execOp, hop, hl, hc, hrun, Result.andThen]
  exact hK' _ _ (hK _ (Row.new _ _ _) (by simp) ((Fr.refl _ _).alloc _))

/-- Cells of a row that opens with some. -/
theorem Row.sub {w : World} {g : Nat} {A X B : List Value} {t : TypeId} (h : Row w g (A ++ (X ++ B)) t) (o : Nat) (ho : o = A.length) : ∀ j v, X[j]? = some v → w.cell? ⟨g, o + j, none⟩ = some v := by
  intro j v hv
  have hj : j < X.length := (List.getElem?_eq_some_iff.1 hv).1
  rw [h.cell, ho, List.getElem?_append_right (by omega), show A.length + j - A.length = j by omega, List.getElem?_append_left hj, hv]
theorem Row.seg {w : World} {g : Nat} {C : List Value} {t : TypeId} (h : Row w g C t) (o n : Nat) : ∀ j v, ((C.drop o).take n)[j]? = some v → w.cell? ⟨g, o + j, none⟩ = some v := by
  intro j v hv
  rw [List.getElem?_take] at hv
  split at hv
  · rw [h.cell, ← hv, List.getElem?_drop]
  · cases hv
theorem splice_bcells (s : List UInt8) (C : List Value) (o : Nat) (d : List UInt8) (h : o + d.length ≤ s.length) : splice (bcells s ++ C) o (bcells d) = bcells (splice s o d) ++ C := by
  have h1 : (bcells s).length = s.length := bcells_length s
  have h2 : (bcells d).length = d.length := bcells_length d
  unfold splice
  rw [List.take_append_of_le_length (by omega), List.drop_append_of_le_length (by omega), h2]
  simp [bcells]

/-- A callee that leaves the world alone, in a region that only reads. -/
theorem quiet_eq {P : Program} {f : FuncId} {args : Array Value} {w : World} {n : Nat} {v : Value}
    (h : Calls P f args (w.drewN n) fun e w' => e = .returned v ∧ w.drewN n = w') : Calls P f args (w.drewN n) fun e w'' => e = .returned v ∧ ∃ m, w'' = w.drewN m :=
  h.mono fun _ _ ⟨he, hm⟩ => ⟨he, n, hm.symm⟩

theorem still_eq {P : Program} {f : FuncId} {args : Array Value} {w : World} {v : Value}
    (h : Calls P f args w fun e w' => e = .returned v ∧ w = w') : Calls P f args w fun e w'' => e = .returned v ∧ w'' = w :=
  h.mono fun _ _ ⟨he, hm⟩ => ⟨he, hm.symm⟩

/-- '[]byte(s)'. -/
theorem fr_bytesWorld (w : World) (e : TypeId) (s : ByteArray) : Fr [] w (Lib.bytesWorld w e s) := by
  refine ⟨?_, ?_, ?_, by rw [Lib.bytesWorld_size]; omega, fun k hk _ => Lib.bytesWorld_at_old w e s k hk⟩
  all_goals
    unfold Lib.bytesWorld World.freeze
    split <;> rfl
theorem wpList_str_bytes {P : Program} {ops : Array Oper} {rest : List Oper} {op : Oper} {a : Act} {w : World} {Q : Exit → Act → World → Prop} (hgd : op.guard = none) (src dst e : TypeId) (x : Operand) (ho : op.op = .convert src dst x)
    (hs : P.underlying src = some .string) (hd : P.underlying dst = some (.slice e)) (he : P.underlying e = some (.int .u8)) (s : ByteArray) (hx : a.eval x = .string s)
    (h : ∀ w' c, (∀ j, j < s.size → w'.cell? ⟨w.heap.size, j, none⟩ = some (.int .u8 (s.data.toList.getD j 0).toNat)) → w'.heap.size = w.heap.size + 1 → Fr [] w w' → wpList P ops Q rest (a.put op.dst (.slice (some ⟨w.heap.size, 0, none⟩) s.size c)) w') :
    wpList P ops Q (op :: rest) a w := by
  refine wpList_plain hgd fun K hK => ?_
  unfold Oper.wp
  simp only [execOp, ho, hx, Sem.run_bind, Sem.run_pure, Result.andThen_ok, Lib.run_convert_string_bytes w src dst e s hs hd he]
  exact hK _ _ (h _ _ (fun j hj => Lib.bytesWorld_cell w e s j hj) (Lib.bytesWorld_size w e s) (fr_bytesWorld w e s))

end Go.Proofs.Ytclkahggfdnpgaa
