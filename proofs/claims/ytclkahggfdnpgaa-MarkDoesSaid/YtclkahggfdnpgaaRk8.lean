/- Marks that came in, with the nil slice's capacity; a copy of them by append. -/
import Derived.Test.YtclkahggfdnpgaaRk7
import Derived.Test.YtclkahggfdnpgaaMk18
import Derived.Laws.AppendOwnNone
set_option linter.unusedVariables false
set_option linter.unusedSimpArgs false
namespace Go.Proofs.Ytclkahggfdnpgaa
open Go.ChangeShapes Go.WideShapes Go.Deep Go.RowKit
structure MarksIn (w : World) (a : Option Addr) (n c : Nat) (M : List MarkD) : Prop where
  marks : MarksAt w a n M
  nil : a = none → c = 0
theorem marks_open2 {H : Type} {enc : TypeId × Value → H} {w : World} {spare : Nat → Bool} {held : Bool} {len cap : Nat} {a : Option Addr} {d : DataW H} {p : List MemPlace} (h : DataW.Trod enc Try.prog w 0 spare held 26 (.slice a len cap) d p) : ∃ L, MarksIn w a len cap L := by
  obtain ⟨L, hL⟩ := marks_open h
  refine ⟨L, hL, fun ha => ?_⟩
  subst ha
  obtain ⟨fuel, hf⟩ := h
  rcases open_slice Try.underlying26 hf with ⟨hcs, _⟩ | ⟨ad, l, c, m, n, D, Pl, hcs, _⟩
  · simp [Value.cells] at hcs
    exact hcs.2
  · simp [Value.cells] at hcs
theorem wpList_append_marks {w0 w : World} {ops : Array Oper} {rest : List Oper} {o : Oper} {act : Act} {Q : Exit → Act → World → Prop} (hgd : o.guard = none) (s x : Operand)
    (ho : o.op = .call { callee := .builtin .append, args := #[s, x], argTypes := #[26, 26] }) (v : Value) (hs : act.eval s = v) (hown : w.ownsRow w0.heap.size 52 3 v 0 []) (hF : Fr [] w0 w)
    (a : Option Addr) (n c : Nat) (M : List MarkD) (hx : act.eval x = .slice a n c) (hM : MarksAt w a n M) (hc : a = none → c = 0) (hn : n ≤ 100000)
    (h : ∀ b d w', MarksAt w' b n M → Fr [] w0 w' → wpList Try.prog ops Q rest (act.put o.dst (.slice b n d)) w') : wpList Try.prog ops Q (o :: rest) act w := by
  obtain ⟨i0, hi, hz0, hz1, hz2⟩ := info_parts infoM
  have hl := hM.1
  cases a with
  | none =>
    have h0 : n = 0 := by
      by_cases hn0 : 0 < n
      · obtain ⟨b, o, h, _⟩ := hM.2.at_ hn0
        cases h
      · omega
    subst h0
    obtain rfl := hc rfl
    obtain ⟨b, d, rfl⟩ : ∃ b d, v = .slice b 0 d := by
      rcases hown.2 with ⟨rfl, _⟩ | ⟨g, cap, cur, rfl, _⟩
      · exact ⟨_, _, rfl⟩
      · exact ⟨_, _, rfl⟩
    have hM0 : M = [] := List.eq_nil_of_length_eq_zero hl
    subst hM0
    exact wpList_append_own_none hgd s x 26 ho w0.heap.size 52 i0 3 Try.underlying26 hi _ 0 [] hs hown hx (h b d w ⟨rfl, ⟨fun h => absurd h (by omega)⟩⟩ hF)
  | some ad =>
    refine wpList_append_own _ hgd s x 26 ho w0.heap.size 52 i0 (.agg #[.bool false, .int .i64 0, .int .i64 0]) 3 24 Try.underlying26 hi hz0 hz1 hz2 rfl (by decide) v 0 [] hs hown ad n c (mcells M) hx (by rw [mcells_length, hl]) ?_ (mcells_one M) (by unfold maxLen; omega) (by omega) hF.size ?_
    · intro j u hu
      have hj : j < (mcells M).length := (List.getElem?_eq_some_iff.1 hu).1
      rw [mcells_length] at hj
      obtain ⟨b, o, he, _⟩ := hM.2.at_ (by omega)
      cases he
      exact src_of_marks hM j u hu
    · intro v' w' hown' hgrow _
      rw [Nat.zero_add, List.nil_append] at hown'
      obtain ⟨b, d, rfl⟩ : ∃ b d, v' = .slice b n d := by
        rcases hown'.2 with ⟨rfl, rfl⟩ | ⟨g, cap, cur, rfl, _⟩
        · exact ⟨_, _, rfl⟩
        · exact ⟨_, _, rfl⟩
      refine h b d w' (marks_of_own hown') (hF.trans (Fr.of_grown hgrow v.ownBlock.toList (fun k hk => .inl (by simp [hk]))) (fun y hy => ?_))
      simp only [Option.mem_toList] at hy
      exact .inr (hown.lt y hy).1
end Go.Proofs.Ytclkahggfdnpgaa
