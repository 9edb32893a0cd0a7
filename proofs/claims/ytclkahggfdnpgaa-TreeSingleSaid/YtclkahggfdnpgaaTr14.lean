/- The tree: Good is kept. Plain. -/
import Derived.Test.YtclkahggfdnpgaaTr13
set_option linter.unusedVariables false
set_option linter.unusedSimpArgs false
namespace Go.Proofs.Ytclkahggfdnpgaa
open Go.RowKit
/-- The same instances, other markings that fit. -/
structure Remark (T T' : TreeD) : Prop where
  Fs : T'.Fs = T.Fs
  C : T'.C = T.C
  next : T'.next = T.next
  len : T'.L.length = T.L.length
  at_ : ∀ i, i < T.L.length → (T'.L.getD i default).id = (T.L.getD i default).id ∧ (T'.L.getD i default).tp = (T.L.getD i default).tp ∧ (T'.L.getD i default).par = (T.L.getD i default).par ∧ (T'.L.getD i default).ev = (T.L.getD i default).ev ∧ fitsB (T.Fs.getD (T.L.getD i default).tp default).en (T'.L.getD i default).m = true
theorem mem_getD {L : List InsD} {x : InsD} (h : x ∈ L) : ∃ i, i < L.length ∧ L.getD i default = x := by
  obtain ⟨i, hi, he⟩ := List.getElem_of_mem h
  exact ⟨i, hi, by rw [List.getD_eq_getElem?_getD, List.getElem?_eq_getElem hi]; exact he⟩
theorem Remark.ids {T T' : TreeD} (h : Remark T T') : T'.L.map (·.id) = T.L.map (·.id) := by
  apply List.ext_getElem?
  intro i
  rw [List.getElem?_map, List.getElem?_map]
  by_cases hi : i < T.L.length
  · rw [getD_at T.L i hi, getD_at T'.L i (by rw [h.len]; exact hi)]
    simp only [Option.map_some]
    rw [(h.at_ i hi).1]
  · rw [List.getElem?_eq_none (by rw [h.len]; omega), List.getElem?_eq_none (by omega)]
theorem Remark.back {T T' : TreeD} (h : Remark T T') {x : InsD} (hx : x ∈ T'.L) : ∃ y ∈ T.L, x.id = y.id ∧ x.tp = y.tp ∧ x.par = y.par ∧ x.ev = y.ev ∧ fitsB (T.Fs.getD y.tp default).en x.m = true := by
  obtain ⟨i, hi, rfl⟩ := mem_getD hx
  rw [h.len] at hi
  exact ⟨_, getD_memD T.L i hi, h.at_ i hi⟩
theorem Remark.forth {T T' : TreeD} (h : Remark T T') {y : InsD} (hy : y ∈ T.L) : ∃ x ∈ T'.L, x.id = y.id ∧ x.tp = y.tp ∧ x.par = y.par ∧ x.ev = y.ev := by
  obtain ⟨i, hi, rfl⟩ := mem_getD hy
  have := h.at_ i hi
  exact ⟨_, getD_memD T'.L i (by rw [h.len]; exact hi), this.1, this.2.1, this.2.2.1, this.2.2.2.1⟩
theorem Good.remark {T T' : TreeD} (g : Good T) (h : Remark T T') : Good T' := by
  refine ⟨fun x hx => ?_, fun x hx => ?_, by rw [h.Fs]; exact g.en, by rw [h.ids]; exact g.srt, fun x hx => ?_, ?_, fun x hx h0 => ?_, by rw [h.C, h.Fs]; exact g.calls, by rw [h.Fs]; exact g.tmpls, by rw [h.next]; exact g.next⟩
  · obtain ⟨y, hy, _, h2, _⟩ := h.back hx
    rw [h2, h.Fs]
    exact g.tp y hy
  · obtain ⟨y, hy, _, h2, _, _, h5⟩ := h.back hx
    rw [h2, h.Fs]
    exact h5
  · obtain ⟨y, hy, h1, _⟩ := h.back hx
    rw [h1, h.next]
    exact g.lo y hy
  · obtain ⟨y, r, hL, a1, a2, a3, a4⟩ := g.root
    have h0 : 0 < T.L.length := by rw [hL]; simp
    have hh := h.at_ 0 h0
    have hy : T.L.getD 0 default = y := by rw [hL]; rfl
    rw [hy] at hh
    rcases hL' : T'.L with _ | ⟨z, r'⟩
    · have := h.len; rw [hL'] at this; simp at this; omega
    · have hz : T'.L.getD 0 default = z := by rw [hL']; rfl
      rw [hz] at hh
      exact ⟨z, r', rfl, by rw [hh.1, a1], by rw [hh.2.2.1, a2], by rw [hh.2.2.2.1, a3], by rw [hh.2.1, a4]⟩
  · obtain ⟨y, hy, h1, h2, h3, h4, _⟩ := h.back hx
    obtain ⟨b1, b2, b3, z, hz, b4, c, b5, b6⟩ := g.par y hy (by rw [← h1]; exact h0)
    obtain ⟨z', hz', e1, e2, e3, e4⟩ := h.forth hz
    exact ⟨by rw [h3]; exact b1, by rw [h3, h1]; exact b2, by rw [h4]; exact b3, z', hz', by rw [e1, h3]; exact b4, c, by rw [e2, h4, h.C]; exact b5, by rw [h2]; exact b6⟩
end Go.Proofs.Ytclkahggfdnpgaa
