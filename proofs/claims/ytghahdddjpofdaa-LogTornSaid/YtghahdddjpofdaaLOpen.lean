/- An argument []string opened to plain data. -/
import Derived.Test.YtghahdddjpofdaaProg
import Derived.Test.YtghahdddjpofdaaLPure
import Derived.Test.YtghahdddjpofdaaLAwake
import Derived.ProofKit
import Derived.Deep.Slices
import Derived.Deep.Fields
import Derived.ChangeSame
set_option linter.unusedVariables false
set_option linter.unusedSimpArgs false
namespace Go.Proofs.Ytghahdddjpofdaa
open Go.ChangeShapes Go.WideShapes Go.Deep Go.RowKit

/-- A slice whose elements are each of k cells: element i's cells read as C i. -/
structure ElemsAt (w : World) (a : Option Addr) (n k : Nat) (C : Nat → List Value) : Prop where
  at_ : 0 < n → ∃ b o, a = some ⟨b, o, none⟩ ∧ b < w.heap.size ∧ ∀ i, i < n → (C i).length = k ∧ ∀ j v, (C i)[j]? = some v → w.cell? ⟨b, o + (i * k + j), none⟩ = some v
theorem addr_plain {w : World} {a : Addr} {v : Value} (h : w.cell? a = some v) : a = ⟨a.block, a.off, none⟩ := by
  unfold World.cell? at h
  split at h
  · split at h
    · cases h
    · rename_i hs
      cases a with
      | mk b o s => cases s <;> simp_all
  · cases h
section
variable {H : Type} {enc : TypeId × Value → H} {P : Program} {w : World} {spare : Nat → Bool} {held : Bool}
/-- Any slice, its elements' cells and readings. -/
theorem open_elems {t e k len cap : Nat} {a : Option Addr} {d : DataW H} {p : List MemPlace} (ht : P.underlying t = some (.slice e)) (hk : P.cellsOf e = k) (hk0 : 0 < k) (h : DataW.Trod enc P w 0 spare held t (.slice a len cap) d p) :
    len ≤ maxLen ∧ ∃ C : Nat → List Value, ElemsAt w a len k C ∧ ∀ i, i < len → ∃ n x, DataW.trod enc P w 0 spare held n e (C i) = some x := by
  obtain ⟨fuel, hf⟩ := h
  rcases open_slice ht hf with ⟨hcs, _⟩ | ⟨ad, l, c, m, n, D, Pl, hcs, _, hl, hm, hmm, _, hi⟩
  · simp [Value.cells] at hcs
    obtain ⟨rfl, rfl, rfl⟩ := hcs
    exact ⟨by unfold maxLen; omega, fun _ => [], ⟨fun h => absurd h (by omega)⟩, fun i hi => absurd hi (by omega)⟩
  · simp [Value.cells] at hcs
    obtain ⟨rfl, rfl, rfl⟩ := hcs
    have hlm : len ≤ m := by rw [hmm]; split <;> omega
    obtain ⟨C, hC⟩ := choose_lt (n := len) (p := fun i cs' => w.cells? 0 (ad.add (i * P.cellsOf e)) (P.cellsOf e) = some cs' ∧ DataW.trod enc P w 0 spare held n e cs' = some (D i, Pl i)) (fun i h => hi i (by omega))
    refine ⟨by omega, C, ⟨fun h0 => ?_⟩, fun i h => ⟨n, _, (hC i h).2⟩⟩
    have key : ∀ i, i < len → (C i).length = k ∧ ∀ j v, (C i)[j]? = some v → w.cell? (ad.add (i * k + j)) = some v := by
      intro i h
      obtain ⟨h1, h2⟩ := hC i h
      rw [hk] at h1
      obtain ⟨_, hcl, hat⟩ := World.cells?_some h1
      refine ⟨hcl, fun j v hv => ?_⟩
      have hj : j < k := by rw [← hcl]; exact (List.getElem?_eq_some_iff.1 hv).1
      rw [← add_add, hat j hj, hv]
    have k0 := key 0 h0
    have hc0 : ∃ v, w.cell? ad = some v := by
      have hv : (C 0)[0]? = some ((C 0)[0]'(by omega)) := List.getElem?_eq_getElem (by omega)
      have := k0.2 0 _ hv
      exact ⟨_, by simpa [Addr.add] using this⟩
    obtain ⟨v, hv⟩ := hc0
    have hpl := addr_plain hv
    refine ⟨ad.block, ad.off, by rw [← hpl], block_lt_of_cell hv, fun i h => ⟨(key i h).1, fun j v hj => ?_⟩⟩
    have := (key i h).2 j v hj
    rw [hpl, Addr_add] at this
    exact this
/-- A struct of one-cell fields: each field's cell and its reading. -/
theorem trod_fields {t fuel : Nat} {fs : Array Field} {cs : List Value} {x : DataW H × List MemPlace} (ht : P.underlying t = some (.struct fs)) (hone : oneCellFields P fs = true) (hC : P.cellsOf t = fs.size)
    (h : DataW.trod enc P w 0 spare held fuel t cs = some x) : cs.length = fs.size ∧ ∀ (j : Nat) (f : Field), fs[j]? = some f → ∃ v n y, cs[j]? = some v ∧ DataW.trod enc P w 0 spare held n f.type [v] = some y := by
  obtain ⟨xs, n', _, _, hcl, hxl, hf⟩ := DataW.trod_struct ht h
  rw [hC] at hcl
  refine ⟨hcl, fun j f hj => ?_⟩
  obtain ⟨ho, hk⟩ := hone_of hone j f hj
  have hjl : j < fs.size := (Array.getElem?_eq_some_iff.1 hj).1
  have h1 := hf j f hj
  rw [ho, hk] at h1
  have hone' : (cs.drop j).take 1 = [cs[j]'(by omega)] := by
    rw [List.drop_eq_getElem_cons (by omega)]
    rfl
  rw [hone'] at h1
  have hys : xs[j]? = some (xs[j]'(by omega)) := List.getElem?_eq_getElem (by omega)
  exact ⟨_, n', _, List.getElem?_eq_getElem (by omega), h1.trans hys⟩
theorem field_int {t n : Nat} {v : Value} {y : DataW H × List MemPlace} {k : IntKind} (ht : P.underlying t = some (.int k)) (h : DataW.trod enc P w 0 spare held n t [v] = some y) : ∃ m, v = .int k m ∧ (Lit.int k m).wf = true := by
  obtain ⟨m, hm, _, hw⟩ := DataW.trod_int ht h
  exact ⟨m, by simpa using hm, hw⟩
theorem field_bool {t n : Nat} {v : Value} {y : DataW H × List MemPlace} (ht : P.underlying t = some .bool) (h : DataW.trod enc P w 0 spare held n t [v] = some y) : ∃ m, v = .bool m := by
  obtain ⟨m, hm, _⟩ := DataW.trod_bool ht h
  exact ⟨m, by simpa using hm⟩
theorem field_string {t n : Nat} {v : Value} {y : DataW H × List MemPlace} (ht : P.underlying t = some .string) (h : DataW.trod enc P w 0 spare held n t [v] = some y) : ∃ m : ByteArray, v = .string m ∧ m.size ≤ maxLen := by
  obtain ⟨m, hm, _, hw⟩ := DataW.trod_string ht h
  exact ⟨m, by simpa using hm, hw⟩
theorem wf_i64 {m : Int} (h : (Lit.int .i64 m).wf = true) : -9223372036854775808 ≤ m ∧ m ≤ 9223372036854775807 := by
  simp only [Lit.wf, IntKind.min, IntKind.max, IntKind.bits, IntKind.signed] at h
  simpa using h
end

theorem wf_u8 {m : Int} (h : (Lit.int .u8 m).wf = true) : 0 ≤ m ∧ m ≤ 255 := by
  simp only [Lit.wf, IntKind.min, IntKind.max, IntKind.bits, IntKind.signed] at h
  simpa using h
theorem wf_u16 {m : Int} (h : (Lit.int .u16 m).wf = true) : 0 ≤ m ∧ m ≤ 65535 := by
  simp only [Lit.wf, IntKind.min, IntKind.max, IntKind.bits, IntKind.signed] at h
  simpa using h
/-- A slice of texts that came in. -/
structure StrsArg (w : World) (a : Option Addr) (n : Nat) (L : List (List UInt8)) : Prop where
  few : n ≤ 9223372036854775807
  at_ : StrsAt w a n L
theorem list_of (n : Nat) (f : Nat → List UInt8) : ((List.range n).map f).length = n ∧ ∀ j r, ((List.range n).map f)[j]? = some r → j < n ∧ r = f j := by
  refine ⟨by simp, fun j r h => ?_⟩
  rw [List.getElem?_map] at h
  by_cases hj : j < n
  · rw [List.getElem?_range hj] at h
    simp at h
    exact ⟨hj, h.symm⟩
  · rw [List.getElem?_eq_none (by simp; omega)] at h
    cases h
theorem strs_open {H : Type} {enc : TypeId × Value → H} {w : World} {spare : Nat → Bool} {held : Bool} {len cap : Nat} {a : Option Addr} {d : DataW H} {p : List MemPlace} (h : DataW.Trod enc Try.prog w 0 spare held 26 (.slice a len cap) d p) :
    ∃ L, StrsArg w a len L := by
  obtain ⟨hm, C, hC, hd⟩ := open_elems Try.underlying26 (k := 1) (by kernel_rfl) (by decide) h
  have hL : ∀ i, i < len → ∃ x : List UInt8, C i = [str x] := by
    intro i hi
    obtain ⟨n, x, ht⟩ := hd i hi
    have hl : (C i).length = 1 := by
      obtain ⟨b, o, _, _, hh⟩ := hC.at_ (by omega)
      exact (hh i hi).1
    match hc : C i, hl with
    | [v], _ =>
      rw [hc] at ht
      obtain ⟨m, rfl, _⟩ := field_string Try.underlying9 ht
      exact ⟨m.data.toList, rfl⟩
  obtain ⟨f, hf⟩ := choose_lt (n := len) (p := fun i x => C i = [str x]) hL
  obtain ⟨g1, g2⟩ := list_of len f
  refine ⟨(List.range len).map f, by unfold maxLen at hm; exact hm, g1, fun h0 => ?_⟩
  obtain ⟨b, o, rfl, hb, hc⟩ := hC.at_ h0
  refine ⟨b, o, rfl, hb, fun j r hj => ?_⟩
  obtain ⟨hjl, rfl⟩ := g2 j r hj
  have := (hc j hjl).2 0 (str (f j)) (by rw [hf j hjl]; rfl)
  simpa using this
end Go.Proofs.Ytghahdddjpofdaa
