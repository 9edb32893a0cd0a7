/- Whole rows of marks; copies of them. -/
import Derived.Test.YtclkahggfdnpgaaMk3
import Derived.Laws.CopyRow
set_option linter.unusedVariables false
set_option linter.unusedSimpArgs false
namespace Go.Proofs.Ytclkahggfdnpgaa
open Go.RowKit
def mcells : List MarkD → List Value
  | [] => []
  | x :: M => .bool x.inn :: .int .i64 x.age :: .int .i64 x.due :: mcells M
theorem mcells_length (M : List MarkD) : (mcells M).length = M.length * 3 := by
  induction M with
  | nil => rfl
  | cons x M ih => simp [mcells, ih]; omega
theorem mcells_one (M : List MarkD) : ∀ v ∈ mcells M, v.oneCell' = true := by
  induction M with
  | nil => simp [mcells]
  | cons x M ih =>
    intro v hv
    simp only [mcells, List.mem_cons] at hv
    rcases hv with rfl | rfl | rfl | hv
    · rfl
    · rfl
    · rfl
    · exact ih v hv
theorem mcells_at (M : List MarkD) : ∀ (i r : Nat), i < M.length → r < 3 → (mcells M)[i * 3 + r]? = (M.getD i default).cells[r]? := by
  induction M with
  | nil => intro i r h; simp at h
  | cons x M ih =>
    intro i r hi hr
    cases i with
    | zero =>
      match r, hr with
      | 0, _ => rfl
      | 1, _ => rfl
      | 2, _ => rfl
    | succ i =>
      have := ih i r (by simpa using hi) hr
      rw [show (i + 1) * 3 + r = (i * 3 + r) + 3 by omega]
      exact this
theorem mcells_set (M : List MarkD) : ∀ (i : Nat), i < M.length → ∀ v : Value,
    (∀ b : Bool, v = .bool b → (mcells M).set (i * 3) v = mcells (M.set i { (M.getD i default) with inn := b })) ∧
    (∀ n : Int, v = .int .i64 n → (mcells M).set (i * 3 + 1) v = mcells (M.set i { (M.getD i default) with age := n })) ∧
    (∀ n : Int, v = .int .i64 n → (mcells M).set (i * 3 + 2) v = mcells (M.set i { (M.getD i default) with due := n })) := by
  induction M with
  | nil => intro i h; simp at h
  | cons x M ih =>
    intro i hi v
    cases i with
    | zero => exact ⟨fun b hb => by subst hb; rfl, fun n hn => by subst hn; rfl, fun n hn => by subst hn; rfl⟩
    | succ i =>
      obtain ⟨h1, h2, h3⟩ := ih i (by simpa using hi) v
      refine ⟨fun b hb => ?_, fun n hn => ?_, fun n hn => ?_⟩
      · have := h1 b hb
        rw [show (i + 1) * 3 = (i * 3) + 1 + 1 + 1 by omega]
        simp only [mcells, List.set_cons_succ, this]
        rfl
      · have := h2 n hn
        rw [show (i + 1) * 3 + 1 = (i * 3 + 1) + 1 + 1 + 1 by omega]
        simp only [mcells, List.set_cons_succ, this]
        rfl
      · have := h3 n hn
        rw [show (i + 1) * 3 + 2 = (i * 3 + 2) + 1 + 1 + 1 by omega]
        simp only [mcells, List.set_cons_succ, this]
        rfl
theorem marks_of_row {w : World} {g : Nat} {M : List MarkD} {C : List Value} (h : Row w g (mcells M ++ C) 52) (n : Nat) (hn : M.length = n) : MarksAt w (some ⟨g, 0, none⟩) n M := by
  refine ⟨hn, ⟨fun h0 => ⟨g, 0, rfl, h.lt, fun i hi j v hj => ?_⟩⟩⟩
  have hj3 : j < 3 := by
    have := (List.getElem?_eq_some_iff.1 hj).1
    exact this
  rw [h.cell, Nat.zero_add, List.getElem?_append_left (by rw [mcells_length]; omega), mcells_at M i j (by omega) hj3]
  exact hj
theorem src_of_marks {w : World} {b o n : Nat} {M : List MarkD} (h : MarksAt w (some ⟨b, o, none⟩) n M) : ∀ j v, (mcells M)[j]? = some v → w.cell? ((⟨b, o, none⟩ : Addr).add j) = some v := by
  intro j v hj
  have hjl := (List.getElem?_eq_some_iff.1 hj).1
  rw [mcells_length] at hjl
  have hl := h.1
  obtain ⟨b', o', he, hb, hc⟩ := h.2.at_ (by omega)
  injection he with he
  injection he with h1 h2
  subst h1 h2
  have h3 := hc (j / 3) (by omega) (j % 3) v (by
    rw [← mcells_at M (j / 3) (j % 3) (by omega) (Nat.mod_lt _ (by omega)), show j / 3 * 3 + j % 3 = j by omega]
    exact hj)
  rw [Addr_add]
  rw [show o + j / 3 * 3 + j % 3 = o + j by omega] at h3
  exact h3
theorem run_copy_wide {P : Program} (w : World) (dT sT ty elem : TypeId) (g o dLen dCap : Nat) (a : Addr) (sLen sCap k : Nat) (cur : Array Value) (t : TypeId) (cs : List Value)
    (hu : P.underlying dT = some (.slice elem)) (hs : (P.info? elem).map (·.size) = some k)
    (hg : w.heap[g]? = some (.cells cur t (0, 0))) (hn : cs.length = Nat.min sLen dLen * k)
    (hsrc : ∀ j v, cs[j]? = some v → w.cell? (a.add j) = some v) (hfit : o + cs.length ≤ cur.size) (h1 : ∀ v ∈ cs, v.oneCell' = true) :
    (Builtin.copy_ #[dT, sT] ty #[.slice (some ⟨g, o, none⟩) dLen dCap, .slice (some a) sLen sCap]).run P w =
      .ok (goInt (Nat.min sLen dLen)) (w.setRow g (cur.toList.take o ++ cs ++ cur.toList.drop (o + cs.length)).toArray) := by
  have hl := run_loadCells_list (P := P) w a cs hsrc
  have hst := run_storeCells_at P g o t cs 0 cur w hg (by simpa using hfit) h1
  cases hq : P.info? elem with
  | none => simp [hq] at hs
  | some i =>
    have hi : i.size = k := by simpa [hq] using hs
    simp [Builtin.copy_, run_underlying hu, Builtin.lenOf, Builtin.firstCells, sizeOf, typeInfo, hq, hi, ← hn, hl, hst]
theorem info52 : (Try.prog.info? 52).map (fun i => (i.size, i.bytes, i.zero.map (fun z => (z.cells.size, z.cells.toList.all Value.oneCell')))) = some (3, 24, some (3, true)) := by kernel_rfl
theorem madeCells_size (z : Array Value) (n : Nat) : (madeCells z n).size = n := by simp [madeCells]
def CopyOf (M : List MarkD) (n : Nat) (w : World) (e : Ending) (w' : World) : Prop := ∃ g, e = .returned (.slice (some ⟨g, 0, none⟩) n n) ∧ w.heap.size ≤ g ∧ Row w' g (mcells M) 52 ∧ Fr [] w w'
theorem copied_any (a : Option Addr) (n c : Nat) (M : List MarkD) (w : World) (h : MarksAt w a n M) (hn : n ≤ 100000) :
    Calls Try.prog 71 #[.slice a n c] w (CopyOf M n w) := by
  have hl := h.1
  obtain ⟨i, hi⟩ : ∃ i, Try.prog.info? 52 = some i := by
    cases hq : Try.prog.info? 52 with
    | none => have := info52; simp [hq] at this
    | some i => exact ⟨i, rfl⟩
  have hinf := info52
  rw [hi] at hinf
  simp only [Option.map_some, Option.some.injEq, Prod.mk.injEq] at hinf
  obtain ⟨hs, hby, hz⟩ := hinf
  obtain ⟨z, hzz⟩ : ∃ z, i.zero = some z := by
    cases hq : i.zero with
    | none => rw [hq] at hz; simp at hz
    | some z => exact ⟨z, rfl⟩
  have hmk := run_make (P := Try.prog) w 26 52 i z Try.underlying26 hi hzz .i64 .i64 n n (by omega) (by omega) (by rw [hby]; omega) (by omega)
  rw [hs, Int.toNat_natCast] at hmk
  have hC : (madeCells z.cells (n * 3)).size = n * 3 := madeCells_size _ _
  generalize madeCells z.cells (n * 3) = C at hmk hC
  have hmk2 : (Instr.makeSlice 26 (.int .i64 n) (.int .i64 n)).run Try.prog w = .ok (.slice (some ⟨w.heap.size, 0, none⟩) n n) (w.alloc (.cells C 52)) := hmk
  have hrow : (w.alloc (.cells C 52)).heap[w.heap.size]? = some (.cells C 52 (0, 0)) := heap_alloc_new w _
  have hml := mcells_length M
  have hsz : (Try.prog.info? 52).map (·.size) = some 3 := size52
  have hmin : Nat.min n n = n := Nat.min_self n
  have hcp : ∃ w2, (Builtin.copy_ #[26, 26] 3 #[.slice (some ⟨w.heap.size, 0, none⟩) n n, .slice a n c]).run Try.prog (w.alloc (.cells C 52)) = .ok (goInt n) w2 ∧ Row w2 w.heap.size (mcells M) 52 ∧ Fr [] w w2 := by
    by_cases h0 : n = 0
    · subst h0
      have hM : M = [] := List.eq_nil_of_length_eq_zero hl
      have hCe : C = #[] := Array.eq_empty_of_size_eq_zero (by omega)
      subst hM hCe
      refine ⟨w.alloc (.cells #[] 52), ?_, Row.new w [] 52, (Fr.refl _ _).alloc _⟩
      cases a with
      | none => simp [Builtin.copy_, run_underlying Try.underlying26, Builtin.lenOf, Builtin.firstCells, sizeOf, typeInfo, hi, hs, loadCells, storeCells, goInt]
      | some ad =>
        have hl0 := run_loadCells_list (P := Try.prog) (w.alloc (.cells #[] 52)) ad [] (by simp)
        rw [List.length_nil] at hl0
        simp [Builtin.copy_, run_underlying Try.underlying26, Builtin.lenOf, Builtin.firstCells, sizeOf, typeInfo, hi, hs, hl0, storeCells, goInt]
    · obtain ⟨b, o, rfl, hb, hc⟩ := (h.fr ((Fr.refl _ w).alloc (.cells C 52))).2.at_ (by omega)
      have hsrc := src_of_marks (h.fr ((Fr.refl _ w).alloc (.cells C 52)))
      have hr := run_copy_wide (P := Try.prog) (w.alloc (.cells C 52)) 26 26 3 52 w.heap.size 0 n n ⟨b, o, none⟩ n c 3 C 52 (mcells M) Try.underlying26 hsz hrow (by rw [hmin, hml, hl]) hsrc (by omega) (mcells_one M)
      rw [hmin] at hr
      refine ⟨_, hr, ?_, ((Fr.refl _ _).alloc _).setRow (by simp) _⟩
      have hd : C.toList.drop (0 + (mcells M).length) = [] := List.drop_eq_nil_of_le (by rw [Array.length_toList]; omega)
      rw [hd, List.take_zero, List.nil_append, List.append_nil]
      have hrw : Row (w.alloc (.cells C 52)) w.heap.size C.toList 52 := by simpa using Row.new w C.toList 52
      exact hrw.setRow _
  obtain ⟨w2, hcp, hR, hF⟩ := hcp
  have HR := Lib.hid hR
  have HF := Lib.hid hF
  clear hR hF hmk hrow hml hsz hmin hi hs hby hz hzz hl h hC
  go_enter Try.func71, Try.ntmps71
  go_wp2_with fail
  go_ret
  exact ⟨w.heap.size, rfl, Nat.le_refl _, HR.out, HF.out⟩
end Go.Proofs.Ytclkahggfdnpgaa
