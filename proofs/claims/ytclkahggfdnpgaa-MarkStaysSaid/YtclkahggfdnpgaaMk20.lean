/- A graph that came in, its ties' ends in bounds. -/
import Derived.Test.YtclkahggfdnpgaaMk18
import Derived.Test.YtclkahggfdnpgaaMk17
import Derived.Test.YtclkahggfdnpgaaMaps
set_option linter.unusedVariables false
set_option linter.unusedSimpArgs false
namespace Go.Proofs.Ytclkahggfdnpgaa
open Go.ChangeShapes Go.WideShapes Go.Deep Go.RowKit
section
variable {H : Type} {enc : TypeId × Value → H} {P : Program} {w : World} {spare : Nat → Bool} {held : Bool}
theorem open_listQ {α : Type} [Inhabited α] {t e k len cap : Nat} {a : Option Addr} {d : DataW H} {p : List MemPlace} (cells : α → List Value) (Q : α → Prop) (ht : P.underlying t = some (.slice e)) (hk : P.cellsOf e = k) (hk0 : 0 < k)
    (hel : ∀ (cs : List Value) n x, cs.length = k → DataW.trod enc P w 0 spare held n e cs = some x → ∃ y : α, cs = cells y ∧ Q y) (h : DataW.Trod enc P w 0 spare held t (.slice a len cap) d p) :
    ∃ L : List α, L.length = len ∧ RowsAt w a len k (fun i => cells (L.getD i default)) ∧ ∀ y ∈ L, Q y := by
  obtain ⟨_, C, hC, hd⟩ := open_rows ht hk hk0 h
  have hL : ∀ i, i < len → ∃ x : α, C i = cells x ∧ Q x := fun i hi => by
    obtain ⟨hl, n, x, hx⟩ := hd i hi
    exact hel _ n x hl hx
  obtain ⟨L, hL⟩ := choose_lt (n := len) (p := fun i x => C i = cells x ∧ Q x) hL
  refine ⟨(List.range len).map L, by simp, ⟨fun h0 => ?_⟩, fun y hy => ?_⟩
  · obtain ⟨b, o, rfl, hb, hh⟩ := hC.at_ h0
    refine ⟨b, o, rfl, hb, fun i hi j v hj => hh i hi j v ?_⟩
    have e1 : ((List.range len).map L).getD i default = L i := by
      rw [List.getD_eq_getElem?_getD, List.getElem?_map, List.getElem?_range hi]
      rfl
    have hj' : (cells (((List.range len).map L).getD i default))[j]? = some v := hj
    rw [e1, ← (hL i hi).1] at hj'
    exact hj'
  · obtain ⟨i, hi, rfl⟩ := List.mem_map.1 hy
    exact (hL i (List.mem_range.1 hi)).2
end
/-- The number is one of int's. -/
def TieD.ok (t : TieD) : Prop := inI t.kind ∧ inI t.src ∧ inI t.dst ∧ inI t.time
theorem wf_inI {m : Int} (h : (Lit.int .i64 m).wf = true) : inI m := wf_i64 h
section
variable {H : Type} {enc : TypeId × Value → H} {w : World} {spare : Nat → Bool} {held : Bool}
theorem ties_open2 {len cap : Nat} {a : Option Addr} {d : DataW H} {p : List MemPlace} (h : DataW.Trod enc Try.prog w 0 spare held 23 (.slice a len cap) d p) : ∃ L, TiesAt w a len L ∧ ∀ t ∈ L, t.ok := by
  obtain ⟨L, hl, hr, hq⟩ := open_listQ (k := 4) TieD.cells TieD.ok Try.underlying23 (by kernel_rfl) (by decide) (fun cs n x hl ht => by
    obtain ⟨_, hf⟩ := trod_fields Try.underlying57 (by kernel_rfl) (by kernel_rfl) ht
    obtain ⟨v0, _, _, e0, h0⟩ := hf 0 _ rfl
    obtain ⟨v1, _, _, e1, h1⟩ := hf 1 _ rfl
    obtain ⟨v2, _, _, e2, h2⟩ := hf 2 _ rfl
    obtain ⟨v3, _, _, e3, h3⟩ := hf 3 _ rfl
    obtain ⟨m0, rfl, w0⟩ := field_int Try.underlying3 h0
    obtain ⟨m1, rfl, w1⟩ := field_int Try.underlying3 h1
    obtain ⟨m2, rfl, w2⟩ := field_int Try.underlying3 h2
    obtain ⟨m3, rfl, w3⟩ := field_int Try.underlying3 h3
    exact ⟨⟨m0, m1, m2, m3⟩, list4 hl e0 e1 e2 e3, wf_inI w0, wf_inI w1, wf_inI w2, wf_inI w3⟩) h
  exact ⟨L, ⟨hl, hr⟩, hq⟩
structure FlatIn2 (w : World) (f : FlatD) : Prop where
  flat : FlatIn w f
  ok : ∀ t ∈ f.T, t.ok
set_option maxRecDepth 100000 in
theorem flat_open2 {r : Reach} {b0 : Nat} {v : Value} {d : DataW H} {p : List MemPlace} (hv : Value.okWide Try.prog w r b0 25 v) (h : DataW.Trod enc Try.prog w 0 spare held 25 v d p) : ∃ X : FlatD, v = X.val ∧ FlatIn2 w X := by
  obtain ⟨v0, v1, y0, y1, n, rfl, _, _, h0, h1⟩ := Go.Joins.open_agg2 (P := Try.prog) (t := 25) Try.underlying25 (by kernel_rfl) (by kernel_rfl) hv h
  obtain ⟨ea, en, ec, rfl⟩ := field_slice Try.underlying22 h0
  obtain ⟨ta, tn, tc, rfl⟩ := field_slice Try.underlying23 h1
  obtain ⟨E, hE⟩ := evs_open (a := ea) (len := en) (cap := ec) ⟨n, h0⟩
  obtain ⟨T, hT, hq⟩ := ties_open2 (a := ta) (len := tn) (cap := tc) ⟨n, h1⟩
  exact ⟨⟨ea, en, ec, ta, tn, tc, E, T⟩, rfl, ⟨hE, hT⟩, hq⟩
end
/-- The map that tells what is named. -/
theorem boolE_ex : ∃ E : ElemOf Try.prog 4 Bool, (∀ v, E.val v = .bool v) ∧ E.zero = false ∧ ∀ v, E.good v := ⟨boolElem Try.prog 4 Try.underlying4 (fun w => by kernel_rfl), fun _ => rfl, rfl, fun _ => trivial⟩
def namedI (T : List TieD) (i x : Int) : Bool := T.any fun t => decide (t.src = i) && decide (2 ≤ t.kind) && decide (t.kind ≤ 4) && decide (t.dst = x)
def namedM (T : List TieD) (i : Int) (t : Nat) : Int → Option Bool := fun x => if x = i ∨ namedI (T.take t) i x = true then some true else none
theorem namedM_zero (T : List TieD) (i : Int) : (fun y => if y = i then some true else (none : Option Bool)) = namedM T i 0 := by
  funext y
  unfold namedM namedI
  simp
theorem namedI_succ (T : List TieD) (i x : Int) (t : Nat) (h : t < T.length) : namedI (T.take (t + 1)) i x = (namedI (T.take t) i x || (decide ((T.getD t default).src = i) && decide (2 ≤ (T.getD t default).kind) && decide ((T.getD t default).kind ≤ 4) && decide ((T.getD t default).dst = x))) := by
  unfold namedI
  rw [take_succD T t h, List.any_append]
  simp
theorem namedM_yes (T : List TieD) (i : Int) (t : Nat) (h : t < T.length) (h1 : (T.getD t default).src = i) (h2 : 2 ≤ (T.getD t default).kind) (h4 : (T.getD t default).kind ≤ 4) :
    (fun y => if y = (T.getD t default).dst then some true else namedM T i t y) = namedM T i (t + 1) := by
  funext y
  unfold namedM
  rw [namedI_succ T i y t h, decide_eq_true h1, decide_eq_true h2, decide_eq_true h4]
  by_cases hy : y = (T.getD t default).dst
  · rw [if_pos hy, decide_eq_true hy.symm]
    simp
  · rw [if_neg hy, decide_eq_false (fun h => hy h.symm)]
    simp
theorem namedM_no (T : List TieD) (i : Int) (t : Nat) (h : t < T.length) (h1 : ¬ ((T.getD t default).src = i ∧ 2 ≤ (T.getD t default).kind ∧ (T.getD t default).kind ≤ 4)) : namedM T i t = namedM T i (t + 1) := by
  funext y
  unfold namedM
  rw [namedI_succ T i y t h]
  generalize T.getD t default = u at h1 ⊢
  have : (decide (u.src = i) && decide (2 ≤ u.kind) && decide (u.kind ≤ 4) && decide (u.dst = y)) = false := by
    simp
    omega
  rw [this, Bool.or_false]
theorem namedM_get (T : List TieD) (i : Int) (x : Int) : ((namedM T i T.length x).getD false) = (decide (x = i) || namedI T i x) := by
  unfold namedM
  rw [List.take_length]
  by_cases h : x = i
  · rw [if_pos (.inl h), decide_eq_true h]; rfl
  · by_cases h2 : namedI T i x = true
    · rw [if_pos (.inr h2), h2, Bool.or_true]; rfl
    · rw [if_neg (by simp [h, h2]), decide_eq_false h, (by simpa using h2 : namedI T i x = false)]; rfl
end Go.Proofs.Ytclkahggfdnpgaa
