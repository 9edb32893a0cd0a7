/- An argument []Act, []bool opened to plain data. -/
import Derived.Test.YtgknnfajilfpeaaProg
import Derived.Test.YtgknnfajilfpeaaMem
import Derived.ProofKit
import Derived.Deep.Slices
import Derived.Deep.Fields
import Derived.ChangeSame
set_option linter.unusedVariables false
set_option linter.unusedSimpArgs false
namespace Go.Proofs.Ytgknnfajilfpeaa
open Go.ChangeShapes Go.WideShapes Go.Deep Go.RowKit

/-- A slice whose elements are each of k cells: element i's cells read as C i. -/
structure ElemsAt (w : World) (a : Option Addr) (n k : Nat) (C : Nat → List Value) : Prop where
  at_ : 0 < n → ∃ b o, a = some ⟨b, o, none⟩ ∧ b < w.heap.size ∧ ∀ i, i < n → (C i).length = k ∧ ∀ j v, (C i)[j]? = some v → w.cell? ⟨b, o + (i * k + j), none⟩ = some v
theorem addr_plain {w : World} {a : Addr} {v : Value} (h : w.cell? a = some v) : a = ⟨a.block, a.off, none⟩ := by
  unfold World.cell? at h
  split at h
  · split at h
    · cases h
    · rename_i hs
      cases a with
      | mk b o s => cases s <;> simp_all
  · cases h
section
variable {H : Type} {enc : TypeId × Value → H} {P : Program} {w : World} {spare : Nat → Bool} {held : Bool}
/-- Any slice, its elements' cells and readings. -/
theorem open_elems {t e k len cap : Nat} {a : Option Addr} {d : DataW H} {p : List MemPlace} (ht : P.underlying t = some (.slice e)) (hk : P.cellsOf e = k) (hk0 : 0 < k) (h : DataW.Trod enc P w 0 spare held t (.slice a len cap) d p) :
    len ≤ maxLen ∧ ∃ C : Nat → List Value, ElemsAt w a len k C ∧ ∀ i, i < len → ∃ n x, DataW.trod enc P w 0 spare held n e (C i) = some x := by
  obtain ⟨fuel, hf⟩ := h
  rcases open_slice ht hf with ⟨hcs, _⟩ | ⟨ad, l, c, m, n, D, Pl, hcs, _, hl, hm, hmm, _, hi⟩
  · simp [Value.cells] at hcs
    obtain ⟨rfl, rfl, rfl⟩ := hcs
    exact ⟨by unfold maxLen; omega, fun _ => [], ⟨fun h => absurd h (by omega)⟩, fun i hi => absurd hi (by omega)⟩
  · simp [Value.cells] at hcs
    obtain ⟨rfl, rfl, rfl⟩ := hcs
    have hlm : len ≤ m := by rw [hmm]; split <;> omega
    obtain ⟨C, hC⟩ := choose_lt (n := len) (p := fun i cs' => w.cells? 0 (ad.add (i * P.cellsOf e)) (P.cellsOf e) = some cs' ∧ DataW.trod enc P w 0 spare held n e cs' = some (D i, Pl i)) (fun i h => hi i (by omega))
    refine ⟨by omega, C, ⟨fun h0 => ?_⟩, fun i h => ⟨n, _, (hC i h).2⟩⟩
    have key : ∀ i, i < len → (C i).length = k ∧ ∀ j v, (C i)[j]? = some v → w.cell? (ad.add (i * k + j)) = some v := by
      intro i h
      obtain ⟨h1, h2⟩ := hC i h
      rw [hk] at h1
      obtain ⟨_, hcl, hat⟩ := World.cells?_some h1
      refine ⟨hcl, fun j v hv => ?_⟩
      have hj : j < k := by rw [← hcl]; exact (List.getElem?_eq_some_iff.1 hv).1
      rw [← add_add, hat j hj, hv]
    have k0 := key 0 h0
    have hc0 : ∃ v, w.cell? ad = some v := by
      have hv : (C 0)[0]? = some ((C 0)[0]'(by omega)) := List.getElem?_eq_getElem (by omega)
      have := k0.2 0 _ hv
      exact ⟨_, by simpa [Addr.add] using this⟩
    obtain ⟨v, hv⟩ := hc0
    have hpl := addr_plain hv
    refine ⟨ad.block, ad.off, by rw [← hpl], block_lt_of_cell hv, fun i h => ⟨(key i h).1, fun j v hj => ?_⟩⟩
    have := (key i h).2 j v hj
    rw [hpl, Addr_add] at this
    exact this
/-- A struct of one-cell fields: each field's cell and its reading. -/
theorem trod_fields {t fuel : Nat} {fs : Array Field} {cs : List Value} {x : DataW H × List MemPlace} (ht : P.underlying t = some (.struct fs)) (hone : oneCellFields P fs = true) (hC : P.cellsOf t = fs.size)
    (h : DataW.trod enc P w 0 spare held fuel t cs = some x) : cs.length = fs.size ∧ ∀ (j : Nat) (f : Field), fs[j]? = some f → ∃ v n y, cs[j]? = some v ∧ DataW.trod enc P w 0 spare held n f.type [v] = some y := by
  obtain ⟨xs, n', _, _, hcl, hxl, hf⟩ := DataW.trod_struct ht h
  rw [hC] at hcl
  refine ⟨hcl, fun j f hj => ?_⟩
  obtain ⟨ho, hk⟩ := hone_of hone j f hj
  have hjl : j < fs.size := (Array.getElem?_eq_some_iff.1 hj).1
  have h1 := hf j f hj
  rw [ho, hk] at h1
  have hone' : (cs.drop j).take 1 = [cs[j]'(by omega)] := by
    rw [List.drop_eq_getElem_cons (by omega)]
    rfl
  rw [hone'] at h1
  have hys : xs[j]? = some (xs[j]'(by omega)) := List.getElem?_eq_getElem (by omega)
  exact ⟨_, n', _, List.getElem?_eq_getElem (by omega), h1.trans hys⟩
theorem field_int {t n : Nat} {v : Value} {y : DataW H × List MemPlace} {k : IntKind} (ht : P.underlying t = some (.int k)) (h : DataW.trod enc P w 0 spare held n t [v] = some y) : ∃ m, v = .int k m ∧ (Lit.int k m).wf = true := by
  obtain ⟨m, hm, _, hw⟩ := DataW.trod_int ht h
  exact ⟨m, by simpa using hm, hw⟩
theorem field_bool {t n : Nat} {v : Value} {y : DataW H × List MemPlace} (ht : P.underlying t = some .bool) (h : DataW.trod enc P w 0 spare held n t [v] = some y) : ∃ m, v = .bool m := by
  obtain ⟨m, hm, _⟩ := DataW.trod_bool ht h
  exact ⟨m, by simpa using hm⟩
theorem field_string {t n : Nat} {v : Value} {y : DataW H × List MemPlace} (ht : P.underlying t = some .string) (h : DataW.trod enc P w 0 spare held n t [v] = some y) : ∃ m : ByteArray, v = .string m ∧ m.size ≤ maxLen := by
  obtain ⟨m, hm, _, hw⟩ := DataW.trod_string ht h
  exact ⟨m, by simpa using hm, hw⟩
theorem wf_i64 {m : Int} (h : (Lit.int .i64 m).wf = true) : -9223372036854775808 ≤ m ∧ m ≤ 9223372036854775807 := by
  simp only [Lit.wf, IntKind.min, IntKind.max, IntKind.bits, IntKind.signed] at h
  simpa using h
end

theorem wf_u8 {m : Int} (h : (Lit.int .u8 m).wf = true) : 0 ≤ m ∧ m ≤ 255 := by
  simp only [Lit.wf, IntKind.min, IntKind.max, IntKind.bits, IntKind.signed] at h
  simpa using h
theorem list4 {l : List Value} {a b c d : Value} (h : l.length = 4) (h0 : l[0]? = some a) (h1 : l[1]? = some b) (h2 : l[2]? = some c) (h3 : l[3]? = some d) : l = [a, b, c, d] := by
  match l, h with
  | [_, _, _, _], _ => simp_all
/-- An act as plain data. -/
structure ActD where
  kind : Int
  i : Int
  n : Int
  data : ByteArray
def ActD.ok (a : ActD) : Prop := (-9223372036854775808 ≤ a.i ∧ a.i ≤ 9223372036854775807) ∧ (-9223372036854775808 ≤ a.n ∧ a.n ≤ 9223372036854775807) ∧ a.data.size ≤ 9223372036854775807 ∧ (-9223372036854775808 ≤ a.kind ∧ a.kind ≤ 9223372036854775807)
structure ActsAt (w : World) (a : Option Addr) (n : Nat) (L : Nat → ActD) : Prop where
  few : n ≤ 9223372036854775807
  at_ : 0 < n → ∃ b o, a = some ⟨b, o, none⟩ ∧ b < w.heap.size ∧ ∀ i, i < n → w.cell? ⟨b, o + (i * 4 + 0), none⟩ = some (.int .i64 (L i).kind) ∧ w.cell? ⟨b, o + (i * 4 + 1), none⟩ = some (.int .i64 (L i).i) ∧
    w.cell? ⟨b, o + (i * 4 + 2), none⟩ = some (.int .i64 (L i).n) ∧ w.cell? ⟨b, o + (i * 4 + 3), none⟩ = some (.string (L i).data)
  ok : ∀ i, i < n → (L i).ok
instance : Inhabited ActD := ⟨⟨0, 0, 0, .empty⟩⟩
theorem actCells : Try.prog.cellsOf 32 = 4 := by kernel_rfl
theorem acts_open {H : Type} {enc : TypeId × Value → H} {w : World} {spare : Nat → Bool} {held : Bool} {len cap : Nat} {a : Option Addr} {d : DataW H} {p : List MemPlace} (h : DataW.Trod enc Try.prog w 0 spare held 22 (.slice a len cap) d p) :
    ∃ L, ActsAt w a len L := by
  obtain ⟨hm, C, hC, hd⟩ := open_elems Try.underlying22 actCells (by decide) h
  have hL : ∀ i, i < len → ∃ x : ActD, x.ok ∧ C i = [.int .i64 x.kind, .int .i64 x.i, .int .i64 x.n, .string x.data] := by
    intro i hi
    obtain ⟨n, x, ht⟩ := hd i hi
    have hl : (C i).length = 4 := by
      obtain ⟨b, o, _, _, hh⟩ := hC.at_ (by omega)
      exact (hh i hi).1
    obtain ⟨_, hf⟩ := trod_fields Try.underlying32 (by kernel_rfl) (by kernel_rfl) ht
    obtain ⟨v0, _, _, e0, h0⟩ := hf 0 _ rfl
    obtain ⟨v1, _, _, e1, h1⟩ := hf 1 _ rfl
    obtain ⟨v2, _, _, e2, h2⟩ := hf 2 _ rfl
    obtain ⟨v3, _, _, e3, h3⟩ := hf 3 _ rfl
    obtain ⟨m0, rfl, w0⟩ := field_int Try.underlying3 h0
    obtain ⟨m1, rfl, w1⟩ := field_int Try.underlying3 h1
    obtain ⟨m2, rfl, w2⟩ := field_int Try.underlying3 h2
    obtain ⟨m3, rfl, w3⟩ := field_string Try.underlying9 h3
    refine ⟨⟨m0, m1, m2, m3⟩, ⟨wf_i64 w1, wf_i64 w2, by unfold maxLen at w3; simpa using w3, wf_i64 w0⟩, ?_⟩
    exact list4 hl e0 e1 e2 e3
  obtain ⟨L, hL⟩ := choose_lt hL
  refine ⟨L, by unfold maxLen at hm; simpa using hm, fun h0 => ?_, fun i hi => (hL i hi).1⟩
  obtain ⟨b, o, rfl, hb, hh⟩ := hC.at_ h0
  refine ⟨b, o, rfl, hb, fun i hi => ?_⟩
  have e := (hL i hi).2
  have hc := (hh i hi).2
  rw [e] at hc
  exact ⟨hc 0 _ rfl, hc 1 _ rfl, hc 2 _ rfl, hc 3 _ rfl⟩

structure BoolsAt (w : World) (a : Option Addr) (n : Nat) (L : Nat → Bool) : Prop where
  few : n ≤ 9223372036854775807
  at_ : 0 < n → ∃ b o, a = some ⟨b, o, none⟩ ∧ b < w.heap.size ∧ ∀ i, i < n → w.cell? ⟨b, o + i, none⟩ = some (.bool (L i))
theorem bools_open {H : Type} {enc : TypeId × Value → H} {w : World} {spare : Nat → Bool} {held : Bool} {len cap : Nat} {a : Option Addr} {d : DataW H} {p : List MemPlace} (h : DataW.Trod enc Try.prog w 0 spare held 45 (.slice a len cap) d p) :
    ∃ L, BoolsAt w a len L := by
  obtain ⟨hm, C, hC, hd⟩ := open_elems (k := 1) Try.underlying45 (by kernel_rfl) (by decide) h
  have hL : ∀ i, i < len → ∃ x : Bool, C i = [.bool x] := by
    intro i hi
    obtain ⟨n, x, ht⟩ := hd i hi
    obtain ⟨m, hm, _⟩ := DataW.trod_bool Try.underlying4 ht
    exact ⟨m, hm⟩
  obtain ⟨L, hL⟩ := choose_lt hL
  refine ⟨L, by unfold maxLen at hm; simpa using hm, fun h0 => ?_⟩
  obtain ⟨b, o, rfl, hb, hh⟩ := hC.at_ h0
  refine ⟨b, o, rfl, hb, fun i hi => ?_⟩
  have hc := (hh i hi).2
  rw [hL i hi] at hc
  have := hc 0 _ rfl
  rwa [Nat.mul_one, Nat.add_zero] at this
end Go.Proofs.Ytgknnfajilfpeaa
