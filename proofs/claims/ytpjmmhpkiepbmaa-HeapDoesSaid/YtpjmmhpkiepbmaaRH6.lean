/- The two heaps side by side: the program's and the document's. -/
import Derived.Test.YtpjmmhpkiepbmaaRH5
set_option linter.unusedVariables false
set_option linter.unusedSimpArgs false
namespace Go.Proofs.Ytpjmmhpkiepbmaa
open Go.RowKit
theorem rput_c {b base : Nat} {s : Int} {L : List ItD} {v : Value} {w : World} (h : RhAt w b base s L v) (hg : Good s L) (hb : base ≤ w.heap.size) (x : ItD) :
    Calls Try.prog 11 #[.pointer (some ⟨b, 0, none⟩), x.val] w fun e w' => e = .returned (.int .i64 (putE L x)) ∧ RhNext b base s (rputL s L x) v w w' := by
  have same : ∀ w', Fr [] w w' → RhNext b base s L v w w' := fun w' f => ⟨v, h.fr f, f.mono (by simp), fun y hy => .inl hy⟩
  by_cases h1 : x.ok
  · cases h2 : hasI L x.id with
    | true =>
      have e1 : putE L x = 6 := by unfold putE; rw [if_pos h1, if_pos h2]
      rw [rputL_same (by rw [e1]; decide), e1]
      exact (rput_twice b base s L v x w h hg h1 h2).mono fun _ _ ⟨a, f⟩ => ⟨a, same _ f⟩
    | false =>
      by_cases h3 : L.length = 1000
      · have e1 : putE L x = 4 := by unfold putE; rw [if_pos h1, if_neg (by rw [h2]; simp), if_pos h3]
        rw [rputL_same (by rw [e1]; decide), e1]
        exact (rput_many b base s L v x w h hg h1 h2 h3).mono fun _ _ ⟨a, f⟩ => ⟨a, same _ f⟩
      · have e1 : putE L x = 0 := putE_zero.2 ⟨h1, h2, h3⟩
        have hf := hg.few
        rw [e1]
        have e2 : rputL s L x = insL s L x := by unfold rputL; rw [if_pos e1]
        rw [e2]
        exact rput_ok b base s L v x w h hg h1 h2 (by omega) hb
  · have e1 : putE L x = 3 := by unfold putE; rw [if_neg h1]
    rw [rputL_same (by rw [e1]; decide), e1]
    exact (rput_range b x w h1).mono fun _ _ ⟨a, f⟩ => ⟨a, same _ f⟩
theorem rrem_c {b base : Nat} {s : Int} {L : List ItD} {v : Value} {w : World} (h : RhAt w b base s L v) (hg : Good s L) (hb : base ≤ w.heap.size) (id : Int) :
    Calls Try.prog 14 #[.pointer (some ⟨b, 0, none⟩), .int .i64 id] w fun e w' => e = .returned (.tuple #[(remX L id).val, .bool (hasI L id)]) ∧ RhNext b base s (rrmL L id) v w w' := by
  have same : ∀ w', Fr [] w w' → RhNext b base s L v w w' := fun w' f => ⟨v, h.fr f, f.mono (by simp), fun y hy => .inl hy⟩
  cases h1 : hasI L id with
  | true =>
    have e2 : rrmL L id = L.take (atI L id) ++ L.drop (atI L id + 1) := by unfold rrmL; rw [if_pos h1]
    have e3 : remX L id = L.getD (atI L id) default := by unfold remX; rw [if_pos h1]
    rw [e2, e3]
    exact rrem_some b base s L v id _ w h hg (atI_spec h1).1 (placeI_at h1) hb
  | false =>
    have e3 : remX L id = default := by unfold remX; rw [if_neg (by rw [h1]; simp)]
    rw [rrmL_same h1, e3]
    exact (rrem_none b base s L v id w h hg h1).mono fun _ _ ⟨a, f⟩ => ⟨a, same _ f⟩
/-- The program's heap at u, u + 1 and its row, the document's at u + 2 and its row. -/
structure DoS (E : ElemOf Try.prog 3 Int) (W w : World) (u n : Nat) (s : Int) (A R : List ItD) (va vr : Value) : Prop where
  hp : HS E w (u + 1) u (u + 2) n s A va
  rf : RhAt w (u + 2) (u + 3) s R vr
  s1 : ∀ y, va.ownBlock = some y → y ≠ u + 2 ∧ vr.ownBlock ≠ some y
  fr : Fr [] W w
theorem DoS.fr2 {E : ElemOf Try.prog 3 Int} {W w w' : World} {u n : Nat} {s : Int} {A R : List ItD} {va vr : Value} (h : DoS E W w u n s A R va vr) (f : Fr [] w w') : DoS E W w' u n s A R va vr :=
  ⟨h.hp.fr f, h.rf.fr f, h.s1, h.fr.trans f (fun y hy => .inl hy)⟩
theorem DoS.drew {E : ElemOf Try.prog 3 Int} {W w : World} {u n : Nat} {s : Int} {A R : List ItD} {va vr : Value} (h : DoS E W w u n s A R va vr) : DoS E W w.drew u n s A R va vr := h.fr2 (Fr.refl [] w).drew
theorem DoS.low {E : ElemOf Try.prog 3 Int} {W w : World} {u n : Nat} {s : Int} {A R : List ItD} {va vr : Value} (h : DoS E W w u n s A R va vr) : u + 3 ≤ w.heap.size := h.rf.head.lt
/-- What changes where the program's heap does. -/
theorem DoS.stepA {E : ElemOf Try.prog 3 Int} {W w w' : World} {u n k : Nat} {s : Int} {A A' R : List ItD} {va vr : Value} (h : DoS E W w u n s A R va vr) (N : HSN E (u + 1) u (u + 2) k s A' va w w') (wu : W.heap.size ≤ u) :
    ∃ n' v', n' ≤ k ∧ DoS E W w' u n' s A' R v' vr ∧ ∀ t, u + 2 < t → t < w.heap.size → va.ownBlock ≠ some t → w'.heap[t]? = w.heap[t]? := by
  obtain ⟨n', v', h1, h2, h3, h4⟩ := N
  have b1 := h.rf.head.lt
  refine ⟨n', v', h1, ⟨h2, h.rf.frS h3 ?_ ?_, ?_, h.fr.trans h3 (fun y hy => ?_)⟩, fun t ht htw hv => h3.block t htw (fun hy => ?_)⟩
  · intro hy
    simp only [List.mem_cons, Option.mem_toList] at hy
    rcases hy with hy | hy | hy
    · omega
    · omega
    · exact (h.s1 _ hy).1 rfl
  · intro y hvy hy
    have := (h.rf.row.lt y hvy).1
    simp only [List.mem_cons, Option.mem_toList] at hy
    rcases hy with hy | hy | hy
    · omega
    · omega
    · exact (h.s1 _ hy).2 hvy
  · intro y hy
    rcases h4 with h5 | ⟨q, h5, h6⟩
    · exact h.s1 y (h5 ▸ hy)
    · rw [h5] at hy
      cases hy
      exact ⟨by omega, fun hv => by have := (h.rf.row.lt _ hv).2; omega⟩
  · simp only [List.mem_cons, Option.mem_toList] at hy
    rcases hy with rfl | rfl | hy
    · exact .inr (by omega)
    · exact .inr (by omega)
    · exact .inr (by have := (h.hp.at_.row.lt y hy).1; omega)
  · simp only [List.mem_cons, Option.mem_toList] at hy
    rcases hy with hy | hy | hy
    · omega
    · omega
    · exact hv hy
/-- What changes where the document's heap does. -/
theorem DoS.stepB {E : ElemOf Try.prog 3 Int} {W w w' : World} {u n : Nat} {s : Int} {A R R' : List ItD} {va vr : Value} (h : DoS E W w u n s A R va vr) (N : RhNext (u + 2) (u + 3) s R' vr w w') (wu : W.heap.size ≤ u) :
    ∃ v', DoS E W w' u n s A R' va v' ∧ Fr [u + 2] w w' := by
  obtain ⟨v', h1, h2, h3⟩ := N
  refine ⟨v', ⟨h.hp.frS h2 (by simp) (by simp) (fun y hy => by have := (h.s1 y hy).1; simp; omega), h1, fun y hy => ⟨(h.s1 y hy).1, fun hv => ?_⟩, h.fr.trans h2 (fun y hy => by simp at hy; exact .inr (by omega))⟩, h2⟩
  rcases h3 y hv with h5 | h5
  · exact (h.s1 y hy).2 h5
  · have := (h.hp.at_.row.lt y hy).2; omega
end Go.Proofs.Ytpjmmhpkiepbmaa
