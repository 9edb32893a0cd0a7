/- Plain laws on markings: ticks, what is free, what a doing leaves. -/
import Derived.Test.YtclkahggfdnpgaaMk14
set_option linter.unusedVariables false
set_option linter.unusedSimpArgs false
namespace Go.Proofs.Ytclkahggfdnpgaa
open Go.RowKit
def decI (c : Int) : Int := if c < 1048576 then c - 1 else c
theorem pend_iff (x : MarkD) : x.pend = true ↔ x.inn = true ∧ 0 ≤ x.due := by
  unfold MarkD.pend
  simp
theorem slackF_le (c : Int) (x : MarkD) : slackF c x ≤ c ∧ (x.pend = true → slackF c x ≤ x.due) := by
  unfold slackF
  split
  · split
    · exact ⟨by omega, fun _ => by omega⟩
    · exact ⟨by omega, fun _ => by omega⟩
  · rename_i h
    exact ⟨by omega, fun h' => absurd h' h⟩
theorem foldS_le (M : List MarkD) : ∀ c : Int, M.foldl slackF c ≤ c ∧ ∀ x ∈ M, x.pend = true → M.foldl slackF c ≤ x.due := by
  induction M with
  | nil => intro c; exact ⟨Int.le_refl _, fun x hx => by simp at hx⟩
  | cons y M ih =>
    intro c
    have h1 := slackF_le c y
    have h2 := ih (slackF c y)
    refine ⟨?_, fun x hx hp => ?_⟩
    · rw [List.foldl_cons]; omega
    · rw [List.foldl_cons]
      rcases List.mem_cons.1 hx with rfl | hx
      · have := h1.2 hp; omega
      · exact h2.2 x hx hp
theorem foldS_ge (M : List MarkD) : ∀ c : Int, 0 ≤ c → 0 ≤ M.foldl slackF c := by
  induction M with
  | nil => intro c h; exact h
  | cons y M ih =>
    intro c h
    rw [List.foldl_cons]
    refine ih _ ?_
    unfold slackF
    split
    · rename_i hp
      have := (pend_iff y).1 hp
      split <;> omega
    · exact h
theorem foldS_none (M : List MarkD) : ∀ c : Int, M.any MarkD.pend = false → M.foldl slackF c = c := by
  induction M with
  | nil => intro c h; rfl
  | cons y M ih =>
    intro c h
    rw [List.any_cons, Bool.or_eq_false_iff] at h
    rw [List.foldl_cons]
    have : slackF c y = c := by unfold slackF; rw [h.1]; rfl
    rw [this]
    exact ih c h.2
theorem tick_pend (x : MarkD) (h : x.pend = true → 0 < x.due) : (tickM x).pend = x.pend := by
  by_cases hp : x.pend = true
  · have h0 := h hp
    have hi := ((pend_iff x).1 hp).1
    rw [hp]
    rw [pend_iff]
    refine ⟨hi, ?_⟩
    show 0 ≤ tickU x
    unfold tickU
    split <;> omega
  · have hp' : x.pend = false := by simpa using hp
    rw [hp']
    have h1 : ¬ (tickM x).pend = true := by
      rw [pend_iff]
      rintro ⟨hi, hd⟩
      have hi' : x.inn = true := hi
      have hd' : 0 ≤ tickU x := hd
      have hx : ¬ 0 ≤ x.due := fun h => hp ((pend_iff x).2 ⟨hi', h⟩)
      unfold tickU at hd'
      split at hd' <;> omega
    simpa using h1
theorem slackF_tick (c : Int) (x : MarkD) (hc : c ≤ 1048576) (hx : x.due ≤ 1048576) (h : x.pend = true → 0 < x.due) : slackF (decI c) (tickM x) = decI (slackF c x) := by
  unfold slackF
  rw [tick_pend x h]
  by_cases hp : x.pend = true
  · rw [if_pos hp, if_pos hp]
    have h0 := h hp
    have hi := ((pend_iff x).1 hp).1
    show (if decI c < tickU x then decI c else tickU x) = _
    have ht : tickU x = decI x.due := by
      unfold tickU decI
      by_cases h1 : x.due < 1048576
      · rw [if_pos ⟨hi, h0, h1⟩, if_pos h1]
      · rw [if_neg (fun h => h1 h.2.2), if_neg h1]
    rw [ht]
    unfold decI
    by_cases h1 : c < 1048576 <;> by_cases h2 : x.due < 1048576 <;> by_cases h3 : c < x.due <;> simp only [h1, h2, h3, if_true, if_false] <;> split <;> omega
  · rw [if_neg hp, if_neg hp]
theorem foldS_tick (M : List MarkD) : ∀ c : Int, c ≤ 1048576 → (∀ x ∈ M, x.due ≤ 1048576 ∧ (x.pend = true → 0 < x.due)) → (M.map tickM).foldl slackF (decI c) = decI (M.foldl slackF c) := by
  induction M with
  | nil => intro c hc h; rfl
  | cons y M ih =>
    intro c hc h
    rw [List.map_cons, List.foldl_cons, List.foldl_cons, slackF_tick c y hc (h y (by simp)).1 (h y (by simp)).2]
    exact ih _ (by have := (slackF_le c y).1; omega) fun x hx => h x (by simp [hx])
theorem slack_of_fits {k : Nat} {M : List MarkD} (h : fitsB k M = true) : slackI k M = M.foldl slackF 1048576 := by unfold slackI; rw [if_pos h]
theorem slack_nn {k : Nat} {M : List MarkD} (h : fitsB k M = true) : 0 ≤ slackI k M ∧ slackI k M ≤ 1048576 := by
  rw [slack_of_fits h]
  exact ⟨foldS_ge M _ (by decide), (foldS_le M _).1⟩
theorem slack_tick {k : Nat} {M : List MarkD} (h : fitsB k M = true) (h0 : slackI k M ≠ 0) : slackI k (M.map tickM) = decI (slackI k M) := by
  have hb := slack_nn h
  rw [slack_of_fits h] at h0 hb ⊢
  rw [slack_of_fits (tick_fits k M h)]
  have := foldS_tick M 1048576 (Int.le_refl _) fun x hx => by
    have hg := (bad_iff x).1 ((fits_iff k M).1 h |>.2 x hx)
    refine ⟨hg.2.2.2, fun hp => ?_⟩
    have := (foldS_le M 1048576).2 x hx hp
    omega
  rw [← this]
  rfl
theorem slack_acc {k : Nat} {M : List MarkD} (h : slackI k M = 0) : accB k M = false := by
  unfold accB
  by_cases hp : M.any MarkD.pend = true
  · rw [hp]; simp
  · have hf := slack_fits (k := k) (M := M) (by omega)
    rw [slack_of_fits hf, foldS_none M _ (by simpa using hp)] at h
    omega
theorem tick_go {f : FlatD} {M : List MarkD} (h : fitsB f.en M = true) (h0 : slackI f.en M ≠ 0) : tickE f M = 0 := by
  have := slack_nn h
  unfold tickE
  rw [if_neg (by omega), if_neg h0]
theorem tick_due {f : FlatD} {M : List MarkD} (h0 : slackI f.en M = 0) : tickE f M = 13 := by
  unfold tickE
  rw [if_neg (by omega), if_pos h0]
/-- Does a condition or a milestone lead there? -/
def boundB (T : List TieD) (k : Int) : Bool := T.any fun t => decide (t.dst = k) && (decide (t.kind = 1) || decide (t.kind = 5))
theorem enab_in {f : FlatD} {M : List MarkD} {k : Nat} (h : enabB f M k = true) : (M.getD k default).inn = true := by
  unfold enabB at h
  simp only [Bool.and_eq_true] at h
  exact h.1.2
theorem enab_free {f : FlatD} {M : List MarkD} {k : Nat} (h : fitsB f.en M = true) (hk : k < M.length) (hb : boundB f.T k = false) : enabB f M k = (M.getD k default).inn := by
  have h1 : f.T.any (fun t => t.bars f.en k M) = false := by
    rw [List.any_eq_false]
    intro t ht hbar
    unfold boundB at hb
    rw [List.any_eq_false] at hb
    have h2 := hb t ht
    unfold TieD.bars at hbar
    simp only [Bool.and_eq_true, decide_eq_true_eq, Bool.not_eq_true', Bool.or_eq_true, not_and, not_or] at hbar h2
    have h3 := h2 hbar.1.2
    have h4 := hbar.2
    unfold TieD.free at h4
    rw [if_neg h3.1, if_neg h3.2] at h4
    simp at h4
  unfold enabB
  rw [h, h1]
  have : decide (0 ≤ (k : Int) ∧ (k : Int) < M.length) = true := decide_eq_true (by omega)
  rw [this]
  simp
theorem apply_age (kind : Int) (t : TieD) (x : MarkD) : (applyK kind t x).age = x.age := by
  unfold applyK
  split
  · split <;> rfl
  · rfl
theorem getD_set_other {α : Type} [Inhabited α] (N : List α) (i k : Nat) (x : α) (h : i ≠ k) : (N.set i x).getD k default = N.getD k default := by
  rw [List.getD_eq_getElem?_getD, List.getD_eq_getElem?_getD, List.getElem?_set_ne h]
theorem step_age (kind i : Int) (k : Nat) (out : List MarkD) (t : TieD) (j : Nat) : ((stepK kind i k out t).getD j default).age = (out.getD j default).age := by
  unfold stepK
  split
  · by_cases hj : t.dst.toNat = j
    · by_cases hl : j < out.length
      · rw [hj, getD_set_same out j _ hl, apply_age]
      · rw [List.set_eq_of_length_le (by omega)]
    · rw [getD_set_other _ _ _ _ hj]
  · rfl
theorem doK_age (kind i : Int) (k : Nat) (T : List TieD) (j : Nat) : ∀ out : List MarkD, ((doK kind i k T out).getD j default).age = (out.getD j default).age := by
  induction T with
  | nil => intro out; rfl
  | cons t T ih => intro out; exact (ih _).trans (step_age kind i k out t j)
theorem do_age (f : FlatD) (M : List MarkD) (i j : Nat) (hi : i < M.length) : ((doM f M i).getD j default).age = if j = i then 0 else (M.getD j default).age := by
  unfold doM
  rw [doK_age, doK_age, doK_age]
  unfold doneM
  by_cases h : j = i
  · subst h
    rw [getD_set_same _ _ _ hi, if_pos rfl]
  · rw [getD_set_other _ _ _ _ (fun h' => h h'.symm), if_neg h]
theorem tick_age (x : MarkD) : decide ((tickM x).age ≥ 0) = decide (x.age ≥ 0) := by
  show decide (tickA x ≥ 0) = _
  unfold tickA
  split
  · rename_i h
    split <;> (rw [decide_eq_true (by omega), decide_eq_true (by omega)])
  · rfl
/-- What a tie of the event i names. -/
def namedB (T : List TieD) (i : Int) (j : Nat) : Bool := T.any fun t => decide (t.src = i) && decide (2 ≤ t.kind) && decide (t.kind ≤ 4) && decide (t.dst = j)
theorem step_stays (kind i : Int) (k : Nat) (out : List MarkD) (t : TieD) (j : Nat) (h2 : 2 ≤ kind) (h4 : kind ≤ 4) (h : (decide (t.src = i) && decide (2 ≤ t.kind) && decide (t.kind ≤ 4) && decide (t.dst = j)) = false) :
    (stepK kind i k out t).getD j default = out.getD j default := by
  unfold stepK
  split
  · rename_i hc
    refine getD_set_other _ _ _ _ fun hd => ?_
    simp [TieD.between] at hc h
    omega
  · rfl
theorem doK_stays (kind i : Int) (k : Nat) (T : List TieD) (j : Nat) (h2 : 2 ≤ kind) (h4 : kind ≤ 4) (h : namedB T i j = false) : ∀ out : List MarkD, (doK kind i k T out).getD j default = out.getD j default := by
  induction T with
  | nil => intro out; rfl
  | cons t T ih =>
    intro out
    unfold namedB at h
    rw [List.any_cons, Bool.or_eq_false_iff] at h
    exact (ih h.2 _).trans (step_stays kind i k out t j h2 h4 h.1)
theorem do_stays (f : FlatD) (M : List MarkD) (i j : Nat) (hj : j ≠ i) (h : namedB f.T i j = false) : (doM f M i).getD j default = M.getD j default := by
  unfold doM
  rw [doK_stays _ _ _ _ _ (by decide) (by decide) h, doK_stays _ _ _ _ _ (by decide) (by decide) h, doK_stays _ _ _ _ _ (by decide) (by decide) h]
  unfold doneM
  exact getD_set_other _ _ _ _ (fun h' => hj h'.symm)
/-- The run's marking behind each step. -/
def runStep (f : FlatD) (M : List MarkD) (i : Int) : List MarkD := if doE f M i = 0 then doM f M i.toNat else if tickE f M = 0 then M.map tickM else M
theorem runStep_fits (f : FlatD) (M : List MarkD) (i : Int) (h : fitsB f.en M = true) : fitsB f.en (runStep f M i) = true := by
  unfold runStep
  split
  · exact do_fits f M _ h
  · split
    · exact tick_fits _ M h
    · exact h
def runM (f : FlatD) (L : List Nat) : List MarkD := L.foldl (fun M (i : Nat) => runStep f M (i : Int)) (f.E.map startM)
theorem runM_succ (f : FlatD) (L : List Nat) (j : Nat) (h : j < L.length) : runM f (L.take (j + 1)) = runStep f (runM f (L.take j)) (L.getD j default : Nat) := by
  unfold runM
  rw [take_succD L j h, List.foldl_append]
  rfl
theorem runM_fits (f : FlatD) (hE : f.E.length = f.en) (L : List Nat) : fitsB f.en (runM f L) = true := by
  unfold runM
  have : ∀ (L : List Nat) (M : List MarkD), fitsB f.en M = true → fitsB f.en (L.foldl (fun M (i : Nat) => runStep f M (i : Int)) M) = true := by
    intro L
    induction L with
    | nil => intro M h; exact h
    | cons i L ih => intro M h; exact ih _ (runStep_fits f M i h)
  exact this L _ (by rw [← hE]; exact start_fits f.E)
end Go.Proofs.Ytclkahggfdnpgaa
