/- Sets of numbers, weights in order: plain laws. -/
import Derived.Test.YtpjmmhpkiepbmaaHp15
import Derived.Test.YtpjmmhpkiepbmaaMaps3
set_option linter.unusedVariables false
set_option linter.unusedSimpArgs false
namespace Go.Proofs.Ytpjmmhpkiepbmaa
open Go.RowKit
theorem idsNd_iff {L : List ItD} : idsNd L ↔ (L.map (·.id)).Nodup := by
  unfold List.Nodup
  rw [List.pairwise_iff_getElem]
  constructor
  · intro h i j hi hj hij he
    simp only [List.length_map] at hi hj
    have := h i j hi hj (by rw [getD_lt L i hi, getD_lt L j hj]; simpa using he)
    omega
  · intro h i j hi hj he
    rw [getD_lt L i hi, getD_lt L j hj] at he
    by_cases h1 : i < j
    · exact absurd (by rw [List.getElem_map, List.getElem_map]; exact he) (h i j (by simpa using hi) (by simpa using hj) h1)
    · by_cases h2 : j < i
      · exact absurd (by rw [List.getElem_map, List.getElem_map]; exact he.symm) (h j i (by simpa using hj) (by simpa using hi) h2)
      · omega
theorem hasI_perm {A B : List ItD} (h : A.Perm B) (id : Int) : hasI A id = hasI B id := by
  cases hb : hasI B id with
  | true =>
    obtain ⟨x, hx, hi⟩ := hasI_true.1 hb
    exact hasI_true.2 ⟨x, h.mem_iff.2 hx, hi⟩
  | false => exact hasI_false.2 fun x hx => hasI_false.1 hb x (h.mem_iff.1 hx)
theorem hasI_cons (x : ItD) (L : List ItD) (id : Int) : hasI (x :: L) id = (decide (x.id = id) || hasI L id) := by
  cases hb : hasI L id with
  | true =>
    obtain ⟨y, hy, hi⟩ := hasI_true.1 hb
    rw [Bool.or_true]
    exact hasI_true.2 ⟨y, List.mem_cons_of_mem _ hy, hi⟩
  | false =>
    rw [Bool.or_false]
    by_cases h : x.id = id
    · rw [decide_eq_true h]; exact hasI_true.2 ⟨x, by simp, h⟩
    · rw [decide_eq_false h]
      refine hasI_false.2 fun y hy => ?_
      rcases List.mem_cons.1 hy with rfl | hy
      · exact h
      · exact hasI_false.1 hb y hy
def setM (L : List ItD) : Int → Option Bool := fun x => if hasI L x = true then some true else none
theorem setM_nil : setM [] = fun _ => none := by
  funext x
  rfl
theorem setM_put {s : Int} {L : List ItD} {x : ItD} (h : putE L x = 0) : (fun y => if y = x.id then some true else setM L y) = setM (putL s L x) := by
  funext y
  unfold setM
  rw [hasI_perm (putL_perm h), hasI_cons]
  by_cases hy : y = x.id
  · rw [if_pos hy, decide_eq_true hy.symm]; simp
  · rw [if_neg hy, decide_eq_false (fun e => hy e.symm)]; simp
theorem top_out {s : Int} {L : List ItD} (hg : Good s L) (h : 0 < L.length) : hasI (popL s L) (topX L).id = false := by
  have h1 := (idsNd_iff.1 hg.nd)
  have h2 := ((popL_perm (s := s) h).map (·.id)).nodup_iff.2 h1
  rw [List.map_cons, List.nodup_cons] at h2
  exact hasI_false.2 fun x hx he => h2.1 (List.mem_map.2 ⟨x, hx, he⟩)
theorem setM_pop {s : Int} {L : List ItD} (hg : Good s L) (h : 0 < L.length) : (fun y => if y = (topX L).id then none else setM L y) = setM (popL s L) := by
  have h1 := top_out hg h
  funext y
  unfold setM
  by_cases hy : y = (topX L).id
  · rw [if_pos hy, hy, h1]; simp
  · rw [if_neg hy, ← hasI_perm (popL_perm h), hasI_cons, decide_eq_false (fun e => hy e.symm), Bool.false_or]
theorem setM_top {L : List ItD} (h : 0 < L.length) : setM L (topX L).id = some true := by
  unfold setM
  rw [if_pos]
  exact hasI_true.2 ⟨_, getD_mem L 0 h, rfl⟩
theorem weight_top {s now : Int} {L : List ItD} (hg : Good s L) (h : 0 < L.length) : weightAt s L (topX L).id now = weight s (topX L) + clampN now ∧ (posM L (topX L).id).isSome = true := by
  have h1 := posM_some hg.nd h (x := (topX L).id) rfl
  unfold weightAt
  rw [h1]
  refine ⟨?_, rfl⟩
  show (L.getD 0 default).base * s + clampN now - (L.getD 0 default).since = (L.getD 0 default).base * s - (L.getD 0 default).since + clampN now
  omega
/-- What was taken last comes ahead of all that is left. -/
def LastI (s nw : Int) (j : Nat) (last id : Int) (L : List ItD) : Prop := j = 0 ∨ ∃ y : ItD, last = weight s y + nw ∧ id = y.id ∧ ∀ z ∈ L, aheadB s z y = false
theorem LastI.next {s nw last id : Int} {j : Nat} {L : List ItD} (ho : HeapO s L) (h : 0 < L.length) : LastI s nw (j + 1) (weight s (topX L) + nw) (topX L).id (popL s L) := by
  refine .inr ⟨topX L, rfl, rfl, fun z hz => ?_⟩
  obtain ⟨i, hi, rfl⟩ := List.getElem_of_mem ((popL_perm (s := s) h).mem_iff.1 (List.mem_cons_of_mem _ hz))
  have h1 := heap_first ho i hi
  rw [show gI L i = L[i] from getD_lt L i hi] at h1
  exact h1
theorem LastI.fits {s nw last id : Int} {j : Nat} {L : List ItD} (hl : LastI s nw j last id L) (h : 0 < L.length) (hj : j ≠ 0) : decide (weight s (topX L) + nw > last) = false ∧ ((weight s (topX L) + nw == last) = true → decide ((topX L).id < id) = false) := by
  rcases hl with h0 | ⟨y, rfl, rfl, hy⟩
  · exact absurd h0 hj
  · have h1 := hy (topX L) (getD_mem L 0 h)
    unfold aheadB at h1
    simp at h1
    refine ⟨decide_eq_false (by omega), fun he => decide_eq_false ?_⟩
    rw [beq_iff_eq] at he
    have := h1.2 (by omega)
    omega
theorem boolE_ex : ∃ E : ElemOf Try.prog 4 Bool, (∀ v, E.val v = .bool v) ∧ E.zero = false ∧ ∀ v, E.good v := ⟨boolElem Try.prog 4 Try.underlying4 (fun w => by kernel_rfl), fun _ => rfl, rfl, fun _ => trivial⟩
end Go.Proofs.Ytpjmmhpkiepbmaa
