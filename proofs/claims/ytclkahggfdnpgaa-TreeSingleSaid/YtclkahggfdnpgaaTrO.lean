/- A program and acts that came in, opened to plain data. -/
import Derived.Test.YtclkahggfdnpgaaTr18
set_option linter.unusedVariables false
set_option linter.unusedSimpArgs false
namespace Go.Proofs.Ytclkahggfdnpgaa
open Go.ChangeShapes Go.WideShapes Go.Deep Go.RowKit
section
variable {H : Type} {enc : TypeId × Value → H} {P : Program} {w : World} {spare : Nat → Bool} {held : Bool}
/-- A slice of structs: a list of them, each with what is known of it. -/
theorem open_listP {α : Type} [Inhabited α] {t e k len cap : Nat} {a : Option Addr} {d : DataW H} {p : List MemPlace} (cells : α → List Value) (Q : α → Prop) (ht : P.underlying t = some (.slice e)) (hk : P.cellsOf e = k) (hk0 : 0 < k)
    (hel : ∀ (cs : List Value) n x, cs.length = k → DataW.trod enc P w 0 spare held n e cs = some x → ∃ y : α, cs = cells y ∧ Q y) (h : DataW.Trod enc P w 0 spare held t (.slice a len cap) d p) :
    ∃ L : List α, L.length = len ∧ RowsAt w a len k (fun i => cells (L.getD i default)) ∧ ∀ y ∈ L, Q y := by
  obtain ⟨_, C, hC, hd⟩ := open_rows ht hk hk0 h
  have hL : ∀ i, i < len → ∃ x : α, C i = cells x ∧ Q x := fun i hi => by
    obtain ⟨hl, n, x, hx⟩ := hd i hi
    exact hel _ n x hl hx
  obtain ⟨L, hL⟩ := choose_lt hL
  refine ⟨(List.range len).map L, by simp, ⟨fun h0 => ?_⟩, ?_⟩
  · obtain ⟨b, o, rfl, hb, hh⟩ := hC.at_ h0
    refine ⟨b, o, rfl, hb, fun i hi j v hj => hh i hi j v ?_⟩
    have e1 : ((List.range len).map L).getD i default = L i := by
      rw [List.getD_eq_getElem?_getD, List.getElem?_map, List.getElem?_range hi]
      rfl
    have hj' : (cells (((List.range len).map L).getD i default))[j]? = some v := hj
    rw [e1, ← (hL i hi).1] at hj'
    exact hj'
  · intro y hy
    obtain ⟨i, hi, rfl⟩ := List.mem_map.1 hy
    exact (hL i (List.mem_range.1 hi)).2
end
/-- Acts. -/
structure ActD where
  k : Int
  id : Int
  at_ : Int
deriving Inhabited
def ActD.cells (x : ActD) : List Value := [.int .i64 x.k, .int .i64 x.id, .int .i64 x.at_]
def ActD.val (x : ActD) : Value := .agg #[.int .i64 x.k, .int .i64 x.id, .int .i64 x.at_]
structure ActsAt (w : World) (a : Option Addr) (n : Nat) (L : List ActD) : Prop where
  len : L.length = n
  rows : RowsAt w a n 3 (fun i => (L.getD i default).cells)
theorem ActsAt.fr {w w' : World} {a : Option Addr} {n : Nat} {L : List ActD} (h : ActsAt w a n L) (f : Fr [] w w') : ActsAt w' a n L := ⟨h.len, h.rows.fr f⟩
section
variable {H : Type} {enc : TypeId × Value → H} {w : World} {spare : Nat → Bool} {held : Bool}
theorem tacts_open {len cap : Nat} {a : Option Addr} {d : DataW H} {p : List MemPlace} (h : DataW.Trod enc Try.prog w 0 spare held 63 (.slice a len cap) d p) : ∃ L, ActsAt w a len L := by
  obtain ⟨L, hl, hr⟩ := open_list (k := 3) ActD.cells Try.underlying63 (by kernel_rfl) (by decide) (fun cs n x hl ht => by
    obtain ⟨_, hf⟩ := trod_fields Try.underlying77 (by kernel_rfl) (by kernel_rfl) ht
    obtain ⟨v0, _, _, e0, h0⟩ := hf 0 _ rfl
    obtain ⟨v1, _, _, e1, h1⟩ := hf 1 _ rfl
    obtain ⟨v2, _, _, e2, h2⟩ := hf 2 _ rfl
    obtain ⟨m0, rfl, _⟩ := field_int Try.underlying3 h0
    obtain ⟨m1, rfl, _⟩ := field_int Try.underlying3 h1
    obtain ⟨m2, rfl, _⟩ := field_int Try.underlying3 h2
    exact ⟨⟨m0, m1, m2⟩, list3 hl e0 e1 e2⟩) h
  exact ⟨L, hl, hr⟩
theorem list2 {l : List Value} {a b : Value} (h : l.length = 2) (h0 : l[0]? = some a) (h1 : l[1]? = some b) : l = [a, b] := by
  match l, h with
  | [_, _], _ => simp_all
theorem flats_open {len cap : Nat} {a : Option Addr} {d : DataW H} {p : List MemPlace} (h : DataW.Trod enc Try.prog w 0 spare held 59 (.slice a len cap) d p) : ∃ L : List FlatD, len ≤ maxLen ∧ L.length = len ∧ RowsAt w a len 2 (fun i => (L.getD i default).cells) ∧ ∀ f ∈ L, FlatIn w f := by
  have hm := (open_rows (k := 2) Try.underlying59 (by kernel_rfl) (by decide) h).1
  suffices hh : ∃ L : List FlatD, L.length = len ∧ RowsAt w a len 2 (fun i => (L.getD i default).cells) ∧ ∀ f ∈ L, FlatIn w f by
    obtain ⟨L, h1⟩ := hh
    exact ⟨L, hm, h1⟩
  refine open_listP (k := 2) FlatD.cells (FlatIn w) Try.underlying59 (by kernel_rfl) (by decide) (fun cs n x hl ht => ?_) h
  obtain ⟨_, hf⟩ := trod_fields Try.underlying25 (by kernel_rfl) (by kernel_rfl) ht
  obtain ⟨v0, n0, _, e0, h0⟩ := hf 0 _ rfl
  obtain ⟨v1, n1, _, e1, h1⟩ := hf 1 _ rfl
  obtain ⟨ea, en, ec, rfl⟩ := field_slice Try.underlying22 h0
  obtain ⟨ta, tn, tc, rfl⟩ := field_slice Try.underlying23 h1
  obtain ⟨E, hE⟩ := evs_open (a := ea) (len := en) (cap := ec) ⟨n0, h0⟩
  obtain ⟨T, hT⟩ := ties_open (a := ta) (len := tn) (cap := tc) ⟨n1, h1⟩
  exact ⟨⟨ea, en, ec, ta, tn, tc, E, T⟩, list2 hl e0 e1, hE, hT⟩
theorem calls_open {len cap : Nat} {a : Option Addr} {d : DataW H} {p : List MemPlace} (h : DataW.Trod enc Try.prog w 0 spare held 60 (.slice a len cap) d p) : ∃ L : List CallD, L.length = len ∧ RowsAt w a len 4 (fun i => (L.getD i default).cells) := by
  refine open_list (k := 4) CallD.cells Try.underlying60 (by kernel_rfl) (by decide) (fun cs n x hl ht => ?_) h
  obtain ⟨_, hf⟩ := trod_fields Try.underlying97 (by kernel_rfl) (by kernel_rfl) ht
  obtain ⟨v0, _, _, e0, h0⟩ := hf 0 _ rfl
  obtain ⟨v1, _, _, e1, h1⟩ := hf 1 _ rfl
  obtain ⟨v2, _, _, e2, h2⟩ := hf 2 _ rfl
  obtain ⟨v3, _, _, e3, h3⟩ := hf 3 _ rfl
  obtain ⟨m0, rfl, _⟩ := field_int Try.underlying3 h0
  obtain ⟨m1, rfl, _⟩ := field_int Try.underlying3 h1
  obtain ⟨m2, rfl, _⟩ := field_int Try.underlying3 h2
  obtain ⟨m3, rfl⟩ := field_bool Try.underlying4 h3
  exact ⟨⟨m0, m1, m2, m3⟩, list4 hl e0 e1 e2 e3⟩
set_option maxRecDepth 100000 in
theorem prog_open {r : Reach} {b0 : Nat} {v : Value} {d : DataW H} {p : List MemPlace} (hv : Value.okWide Try.prog w r b0 62 v) (h : DataW.Trod enc Try.prog w 0 spare held 62 v d p) : ∃ X : ProgD, v = X.val ∧ ProgIn w X := by
  obtain ⟨v0, v1, y0, y1, n, rfl, _, _, h0, h1⟩ := Go.Joins.open_agg2 (P := Try.prog) (t := 62) Try.underlying62 (by kernel_rfl) (by kernel_rfl) hv h
  obtain ⟨pa, pn, pc, rfl⟩ := field_slice Try.underlying59 h0
  obtain ⟨ca, cn, cc, rfl⟩ := field_slice Try.underlying60 h1
  obtain ⟨Fs, hm1, hl1, hr1, hf⟩ := flats_open (a := pa) (len := pn) (cap := pc) ⟨n, h0⟩
  obtain ⟨Cs, hl2, hr2⟩ := calls_open (a := ca) (len := cn) (cap := cc) ⟨n, h1⟩
  refine ⟨⟨pa, pc, Fs, ca, cc, Cs⟩, ?_, ?_, hf, ?_, by rw [hl1]; unfold maxLen at hm1; exact hm1⟩
  · unfold ProgD.val
    rw [hl1, hl2]
  · rw [hl1]; exact hr1
  · rw [hl2]; exact hr2
end
end Go.Proofs.Ytclkahggfdnpgaa
