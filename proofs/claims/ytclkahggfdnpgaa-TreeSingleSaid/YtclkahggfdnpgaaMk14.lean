/- Plain laws on markings. -/
import Derived.Test.YtclkahggfdnpgaaMk13
set_option linter.unusedVariables false
set_option linter.unusedSimpArgs false
namespace Go.Proofs.Ytclkahggfdnpgaa
open Go.RowKit
theorem clampU_in (n : Int) : -1 ≤ clampU n ∧ clampU n ≤ 1048576 := by unfold clampU; split <;> (try split) <;> omega
theorem bad_iff (x : MarkD) : x.bad = false ↔ -1 ≤ x.age ∧ x.age ≤ 65536 ∧ -1 ≤ x.due ∧ x.due ≤ 1048576 := by
  unfold MarkD.bad withinB
  simp
  omega
theorem fits_iff (k : Nat) (M : List MarkD) : fitsB k M = true ↔ M.length = k ∧ ∀ x ∈ M, x.bad = false := by
  unfold fitsB
  simp
theorem start_fits (E : List EvD) : fitsB E.length (E.map startM) = true := by
  rw [fits_iff]
  refine ⟨List.length_map _, fun x hx => ?_⟩
  obtain ⟨e, _, rfl⟩ := List.mem_map.1 hx
  rw [bad_iff]
  have := clampU_in e.due
  refine ⟨?_, ?_, this.1, this.2⟩
  · show -1 ≤ (if e.done then (0 : Int) else -1); split <;> omega
  · show (if e.done then (0 : Int) else -1) ≤ 65536; split <;> omega
theorem tick_fits (k : Nat) (M : List MarkD) (h : fitsB k M = true) : fitsB k (M.map tickM) = true := by
  rw [fits_iff] at h ⊢
  refine ⟨by rw [List.length_map]; exact h.1, fun x hx => ?_⟩
  obtain ⟨y, hy, rfl⟩ := List.mem_map.1 hx
  have hb := (bad_iff y).1 (h.2 y hy)
  rw [bad_iff]
  show -1 ≤ tickA y ∧ tickA y ≤ 65536 ∧ -1 ≤ tickU y ∧ tickU y ≤ 1048576
  unfold tickA tickU
  refine ⟨?_, ?_, ?_, ?_⟩
  · split <;> (try split) <;> omega
  · split <;> (try split) <;> omega
  · split <;> omega
  · split <;> omega
theorem set_good (M : List MarkD) (i : Nat) (y : MarkD) (hy : y.bad = false) (h : ∀ x ∈ M, x.bad = false) : ∀ x ∈ M.set i y, x.bad = false := by
  intro x hx
  rcases List.mem_or_eq_of_mem_set hx with h1 | rfl
  · exact h x h1
  · exact hy
theorem default_good : (default : MarkD).bad = false := by decide
theorem getD_good (M : List MarkD) (i : Nat) (h : ∀ x ∈ M, x.bad = false) : (M.getD i default).bad = false := by
  by_cases hi : i < M.length
  · exact h _ (getD_mem M i hi)
  · rw [List.getD_eq_getElem?_getD, List.getElem?_eq_none (by omega)]
    exact default_good
theorem clampD_in (n : Int) : 0 ≤ clampD n ∧ clampD n ≤ 1048576 := by unfold clampD; split <;> (try split) <;> omega
theorem apply_good (kind : Int) (t : TieD) (x : MarkD) (h : x.bad = false) : (applyK kind t x).bad = false := by
  have hb := (bad_iff x).1 h
  have hc := clampD_in t.time
  unfold applyK
  split
  · split
    · rw [bad_iff]
      exact ⟨hb.1, hb.2.1, by show -1 ≤ clampD t.time; omega, hc.2⟩
    · exact h
  · rw [bad_iff]
    exact hb
theorem step_good (kind i : Int) (k : Nat) (out : List MarkD) (t : TieD) (h : ∀ x ∈ out, x.bad = false) : ∀ x ∈ stepK kind i k out t, x.bad = false := by
  unfold stepK
  split
  · exact set_good _ _ _ (apply_good _ _ _ (getD_good _ _ h)) h
  · exact h
theorem doK_good (kind i : Int) (k : Nat) (T : List TieD) : ∀ out : List MarkD, (∀ x ∈ out, x.bad = false) → ∀ x ∈ doK kind i k T out, x.bad = false := by
  induction T with
  | nil => intro out h; exact h
  | cons t T ih => intro out h; exact ih _ (step_good kind i k out t h)
theorem do_fits (f : FlatD) (M : List MarkD) (i : Nat) (h : fitsB f.en M = true) : fitsB f.en (doM f M i) = true := by
  rw [fits_iff] at h ⊢
  refine ⟨by rw [doM_length]; exact h.1, ?_⟩
  refine doK_good _ _ _ _ _ (doK_good _ _ _ _ _ (doK_good _ _ _ _ _ ?_))
  unfold doneM
  refine set_good _ _ _ ?_ h.2
  have hb := (bad_iff _).1 (getD_good M i h.2)
  rw [bad_iff]
  exact ⟨by show (-1 : Int) ≤ 0; omega, by show (0 : Int) ≤ 65536; omega, by show (-1 : Int) ≤ -1; omega, by show (-1 : Int) ≤ 1048576; omega⟩
end Go.Proofs.Ytclkahggfdnpgaa
