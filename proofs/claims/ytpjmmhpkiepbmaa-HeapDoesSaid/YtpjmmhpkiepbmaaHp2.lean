/- The heap in memory; two items change places. -/
import Derived.Test.YtpjmmhpkiepbmaaHp1
import Derived.Test.YtpjmmhpkiepbmaaMaps2
set_option linter.unusedVariables false
set_option linter.unusedSimpArgs false
namespace Go.Proofs.Ytpjmmhpkiepbmaa
open Go.RowKit
def icells : List ItD → List Value
  | [] => []
  | x :: L => .int .i64 x.id :: .int .i64 x.base :: .int .i64 x.since :: icells L
theorem icells_length (L : List ItD) : (icells L).length = L.length * 3 := by
  induction L with
  | nil => rfl
  | cons x L ih => simp [icells, ih]; omega
theorem icells_snoc (L : List ItD) (x : ItD) : icells (L ++ [x]) = icells L ++ x.cells := by
  induction L with
  | nil => rfl
  | cons y L ih => simp [icells, ih]
theorem icells_take (L : List ItD) : ∀ n : Nat, (icells L).take (n * 3) = icells (L.take n) := by
  induction L with
  | nil => intro n; simp [icells]
  | cons x L ih =>
    intro n
    cases n with
    | zero => simp [icells]
    | succ n =>
      rw [show (n + 1) * 3 = n * 3 + 1 + 1 + 1 by omega]
      simp [icells, ih n]
theorem icells_one (L : List ItD) : ∀ v ∈ icells L, v.oneCell' = true := by
  induction L with
  | nil => simp [icells]
  | cons x L ih =>
    intro v hv
    simp only [icells, List.mem_cons] at hv
    rcases hv with rfl | rfl | rfl | hv
    · rfl
    · rfl
    · rfl
    · exact ih v hv
theorem icells_at (L : List ItD) : ∀ (i r : Nat), i < L.length → r < 3 → (icells L)[i * 3 + r]? = (L.getD i default).cells[r]? := by
  induction L with
  | nil => intro i r h; simp at h
  | cons x L ih =>
    intro i r hi hr
    cases i with
    | zero =>
      match r, hr with
      | 0, _ | 1, _ | 2, _ => rfl
    | succ i =>
      have hi' : i < L.length := by simpa using hi
      have e : (i + 1) * 3 + r = (i * 3 + r) + 1 + 1 + 1 := by omega
      rw [e]
      show (icells L)[i * 3 + r]? = _
      rw [ih i r hi' hr]
      rfl
theorem icells_set (L : List ItD) : ∀ (i : Nat), i < L.length → ∀ y : ItD, (((icells L).set (i * 3) (.int .i64 y.id)).set (i * 3 + 1) (.int .i64 y.base)).set (i * 3 + 2) (.int .i64 y.since) = icells (L.set i y) := by
  induction L with
  | nil => intro i h; simp at h
  | cons x L ih =>
    intro i hi y
    cases i with
    | zero => rfl
    | succ i =>
      have hi' : i < L.length := by simpa using hi
      have := ih i hi' y
      have e : (i + 1) * 3 = i * 3 + 1 + 1 + 1 := by omega
      rw [e]
      simp only [icells, List.set_cons_succ]
      rw [this]
theorem getD_at {α : Type} [Inhabited α] (M : List α) (j : Nat) (h : j < M.length) : M[j]? = some (M.getD j default) := by
  rw [List.getD_eq_getElem?_getD, List.getElem?_eq_getElem h]
  rfl
theorem getD_mem {α : Type} [Inhabited α] (M : List α) (j : Nat) (h : j < M.length) : M.getD j default ∈ M := List.mem_of_getElem? (getD_at M j h)
theorem getD_set_same {α : Type} [Inhabited α] (N : List α) (i : Nat) (x : α) (h : i < N.length) : (N.set i x).getD i default = x := by
  rw [List.getD_eq_getElem?_getD, List.getElem?_set_self h]
  rfl
theorem getD_set_other {α : Type} [Inhabited α] (N : List α) (i k : Nat) (x : α) (h : i ≠ k) : (N.set i x).getD k default = N.getD k default := by
  rw [List.getD_eq_getElem?_getD, List.getD_eq_getElem?_getD, List.getElem?_set_ne h]
/-- Where an id's item stands. -/
def posM (L : List ItD) (x : Int) : Option Int := (L.findIdx? fun y => decide (y.id = x)).map Int.ofNat
structure HpAt (E : ElemOf Try.prog 3 Int) (w : World) (b m base n : Nat) (step : Int) (L : List ItD) (v : Value) : Prop where
  head : Row w b [.int .i64 step, v, .map (some m)] 64
  row : w.ownsRow base 32 3 v L.length (icells L)
  map : MapF Try.prog 3 3 E w m n (posM L)
  bl : b < base
  ml : m < base
  ne : b ≠ m
theorem own_row {w : World} {base : Nat} {v : Value} {L : List ItD} (h : w.ownsRow base 32 3 v L.length (icells L)) (h0 : 0 < L.length) :
    ∃ g cap C, v = .slice (some ⟨g, 0, none⟩) L.length cap ∧ base ≤ g ∧ L.length ≤ cap ∧ cap ≤ maxLen ∧ L.length * 3 + C.length = cap * 3 ∧ Row w g (icells L ++ C) 32 := by
  rcases h.2 with ⟨_, hz⟩ | ⟨g, cap, cur, rfl, hb, hg, hn, hcm, hcs, ht⟩
  · omega
  · have he : icells L ++ cur.toList.drop (L.length * 3) = cur.toList := by rw [← ht, List.take_append_drop]
    refine ⟨g, cap, cur.toList.drop (L.length * 3), rfl, hb, hn, hcm, ?_, ?_⟩
    · have h3 : L.length ≤ cap := hn
      have h4 : cur.toList.length = cap * 3 := hcs
      rw [List.length_drop, h4]
      omega
    · show w.heap[g]? = _
      rw [he]
      exact hg
theorem row_own {w : World} {base g cap : Nat} {L : List ItD} {C : List Value} (hb : base ≤ g) (hn : L.length ≤ cap) (hcm : cap ≤ maxLen) (hl : L.length * 3 + C.length = cap * 3) (hR : Row w g (icells L ++ C) 32) :
    w.ownsRow base 32 3 (.slice (some ⟨g, 0, none⟩) L.length cap) L.length (icells L) := by
  refine ⟨icells_length L, .inr ⟨g, cap, (icells L ++ C).toArray, rfl, hb, hR, hn, hcm, ?_, ?_⟩⟩
  · simp [icells_length]
    omega
  · rw [List.take_append_of_le_length (by rw [icells_length]; exact Nat.le_refl _), ← icells_length L, List.take_length]
section
variable {w : World} {g d : Nat} {L : List ItD} {C : List Value}
theorem rowI_at (hR : Row w g (icells L ++ C) 32) (h : d < L.length) (r : Nat) (hr : r < 3) : w.cell? ⟨g, d * 3 + r, none⟩ = (L.getD d default).cells[r]? := by
  rw [hR.cell, List.getElem?_append_left (by rw [icells_length]; omega), icells_at L d r h hr]
theorem rowI_set (hR : Row w g (icells L ++ C) 32) (h : d < L.length) (y : ItD) : Row (((w.setCell ⟨g, d * 3, none⟩ (.int .i64 y.id)).setCell ⟨g, d * 3 + 1, none⟩ (.int .i64 y.base)).setCell ⟨g, d * 3 + 2, none⟩ (.int .i64 y.since)) g (icells (L.set d y) ++ C) 32 := by
  have h1 := ((hR.setCell (d * 3) (.int .i64 y.id)).setCell (d * 3 + 1) (.int .i64 y.base)).setCell (d * 3 + 2) (.int .i64 y.since)
  rw [List.set_append_left _ _ (by rw [icells_length]; omega), List.set_append_left _ _ (by rw [List.length_set, icells_length]; omega), List.set_append_left _ _ (by rw [List.length_set, List.length_set, icells_length]; omega), icells_set L d h y] at h1
  exact h1
end
def swapL (L : List ItD) (i k : Nat) : List ItD := (L.set i (L.getD k default)).set k (L.getD i default)
theorem swapL_length (L : List ItD) (i k : Nat) : (swapL L i k).length = L.length := by unfold swapL; rw [List.length_set, List.length_set]
theorem swapL_get (L : List ItD) (i k : Nat) (hi : i < L.length) (hk : k < L.length) (j : Nat) : (swapL L i k).getD j default = if j = k then L.getD i default else if j = i then L.getD k default else L.getD j default := by
  unfold swapL
  by_cases h1 : j = k
  · subst h1
    rw [if_pos rfl, getD_set_same _ _ _ (by rw [List.length_set]; exact hk)]
  · rw [if_neg h1, getD_set_other _ _ _ _ (fun h => h1 h.symm)]
    by_cases h2 : j = i
    · subst h2
      rw [if_pos rfl, getD_set_same _ _ _ hi]
    · rw [if_neg h2, getD_set_other _ _ _ _ (fun h => h2 h.symm)]
theorem swapL_id (L : List ItD) (i k : Nat) (hi : i < L.length) (hk : k < L.length) (hid : ∀ x ∈ L, inI x.id) (j : Nat) (hj : j < L.length) : inI ((swapL L i k).getD j default).id := by
  rw [swapL_get L i k hi hk j]
  split
  · exact hid _ (getD_mem L i hi)
  · split
    · exact hid _ (getD_mem L k hk)
    · exact hid _ (getD_mem L j hj)
def idsNd (L : List ItD) : Prop := ∀ i j, i < L.length → j < L.length → (L.getD i default).id = (L.getD j default).id → i = j
theorem posM_some {L : List ItD} (hnd : idsNd L) {j : Nat} (hj : j < L.length) {x : Int} (hx : (L.getD j default).id = x) : posM L x = some (j : Int) := by
  unfold posM
  have hp : (decide (L[j].id = x)) = true := by
    rw [List.getD_eq_getElem?_getD, List.getElem?_eq_getElem hj] at hx
    simpa using hx
  cases hf : L.findIdx? (fun y => decide (y.id = x)) with
  | none =>
    rw [List.findIdx?_eq_none_iff] at hf
    have := hf L[j] (List.getElem_mem hj)
    rw [hp] at this
    simp at this
  | some q =>
    obtain ⟨hq, hqp, _⟩ := List.findIdx?_eq_some_iff_getElem.1 hf
    have h1 : (L.getD q default).id = x := by
      rw [List.getD_eq_getElem?_getD, List.getElem?_eq_getElem hq]
      simpa using hqp
    have := hnd q j hq hj (h1.trans hx.symm)
    subst this
    rfl
theorem posM_none {L : List ItD} {x : Int} (h : ∀ j, j < L.length → (L.getD j default).id ≠ x) : posM L x = none := by
  unfold posM
  have : L.findIdx? (fun y => decide (y.id = x)) = none := by
    rw [List.findIdx?_eq_none_iff]
    intro y hy
    obtain ⟨j, hj, rfl⟩ := List.getElem_of_mem hy
    have := h j hj
    rw [List.getD_eq_getElem?_getD, List.getElem?_eq_getElem hj] at this
    simpa using this
  rw [this]
  rfl
theorem posM_find {L : List ItD} {x : Int} {q : Int} (h : posM L x = some q) : ∃ j, q = (j : Nat) ∧ j < L.length ∧ (L.getD j default).id = x := by
  unfold posM at h
  cases hf : L.findIdx? (fun y => decide (y.id = x)) with
  | none => rw [hf] at h; simp at h
  | some j =>
    rw [hf] at h
    obtain ⟨hj, hp, _⟩ := List.findIdx?_eq_some_iff_getElem.1 hf
    refine ⟨j, by simpa using h.symm, hj, ?_⟩
    rw [List.getD_eq_getElem?_getD, List.getElem?_eq_getElem hj]
    simpa using hp
theorem swapL_nd {L : List ItD} {i k : Nat} (hi : i < L.length) (hk : k < L.length) (hnd : idsNd L) : idsNd (swapL L i k) := by
  intro a b ha hb hab
  rw [swapL_length] at ha hb
  rw [swapL_get L i k hi hk a, swapL_get L i k hi hk b] at hab
  by_cases a1 : a = k <;> by_cases a2 : a = i <;> by_cases b1 : b = k <;> by_cases b2 : b = i <;> simp only [a1, a2, b1, b2, if_true, if_false] at hab ⊢ <;>
    first
      | omega
      | (have := hnd _ _ (by omega) (by omega) hab; omega)
      | (split at hab <;> first | omega | (have := hnd _ _ (by omega) (by omega) hab; omega) | (split at hab <;> first | omega | (have := hnd _ _ (by omega) (by omega) hab; omega)))
theorem posM_swap {L : List ItD} {i k : Nat} (hi : i < L.length) (hk : k < L.length) (hnd : idsNd L) :
    (fun y => if y = ((swapL L i k).getD k default).id then some (k : Int) else (fun y => if y = ((swapL L i k).getD i default).id then some (i : Int) else posM L y) y) = posM (swapL L i k) := by
  have hnd' := swapL_nd hi hk hnd
  have hl := swapL_length L i k
  funext y
  by_cases h1 : y = ((swapL L i k).getD k default).id
  · rw [if_pos h1]
    exact (posM_some hnd' (by omega) h1.symm).symm
  · rw [if_neg h1]
    by_cases h2 : y = ((swapL L i k).getD i default).id
    · show (if y = _ then _ else _) = _
      rw [if_pos h2]
      exact (posM_some hnd' (by omega) h2.symm).symm
    · show (if y = _ then _ else _) = _
      rw [if_neg h2]
      cases hp : posM L y with
      | none =>
        refine (posM_none fun j hj hj2 => ?_).symm
        rw [hl] at hj
        have hany : ∀ q, q < L.length → (L.getD q default).id ≠ y := by
          intro q hq hq2
          rw [posM_some hnd hq hq2] at hp
          cases hp
        rw [swapL_get L i k hi hk j] at hj2
        split at hj2
        · exact hany i hi hj2
        · split at hj2
          · exact hany k hk hj2
          · exact hany j hj hj2
      | some q =>
        obtain ⟨j, rfl, hj, hjy⟩ := posM_find hp
        rw [swapL_get L i k hi hk k, if_pos rfl] at h1
        rw [swapL_get L i k hi hk i] at h2
        have hji : j ≠ i := fun h => h1 (by rw [← hjy, h])
        have hjk : j ≠ k := by
          intro h
          by_cases hik : i = k
          · exact hji (by omega)
          · rw [if_neg hik, if_pos rfl] at h2
            exact h2 (by rw [← hjy, h])
        refine (posM_some hnd' (by omega) ?_).symm
        rw [swapL_get L i k hi hk j, if_neg hjk, if_neg hji]
        exact hjy
set_option maxRecDepth 100000 in
set_option maxHeartbeats 4000000 in
theorem swap_any (E : ElemOf Try.prog 3 Int) (hE : ∀ v, E.val v = .int .i64 v) (hEg : ∀ v, inI v → E.good v) (b m base n : Nat) (step : Int) (L : List ItD) (v : Value) (i k : Nat) (w : World) (h : HpAt E w b m base n step L v) (hi : i < L.length) (hk : k < L.length) (hlen : L.length ≤ 1000) (hn : n ≤ 10000000000) (hid : ∀ x ∈ L, inI x.id) (hnd : idsNd L) :
    Calls Try.prog 26 #[.pointer (some ⟨b, 0, none⟩), .int .i64 i, .int .i64 k] w fun e w' => e = .returned (.tuple #[]) ∧ HpAt E w' b m base (n + 2) step (swapL L i k) v ∧ Fr (m :: v.ownBlock.toList) w w' := by
  obtain ⟨g, cap, C, rfl, hgb, hlc, hcm, hlC, hR⟩ := own_row h.row (by omega)
  have HG := Lib.hid hgb
  have RR := Lib.hid hR
  have HH := Lib.hid h
  have hbg : b ≠ g := by have := h.bl; omega
  have c0 : w.cell? ⟨b, 1, none⟩ = some (.slice (some ⟨g, 0, none⟩) L.length cap) := h.head.cell 1
  have c1 : w.cell? ⟨b, 2, none⟩ = some (.map (some m)) := h.head.cell 2
  have a0 : w.cell? ⟨g, i * 3, none⟩ = some (.int .i64 (L.getD i default).id) := rowI_at hR hi 0 (by omega)
  have a1 : w.cell? ⟨g, i * 3 + 1, none⟩ = some (.int .i64 (L.getD i default).base) := rowI_at hR hi 1 (by omega)
  have a2 : w.cell? ⟨g, i * 3 + 2, none⟩ = some (.int .i64 (L.getD i default).since) := rowI_at hR hi 2 (by omega)
  have b0 : w.cell? ⟨g, k * 3, none⟩ = some (.int .i64 (L.getD k default).id) := rowI_at hR hk 0 (by omega)
  have b1 : w.cell? ⟨g, k * 3 + 1, none⟩ = some (.int .i64 (L.getD k default).base) := rowI_at hR hk 1 (by omega)
  have b2 : w.cell? ⟨g, k * 3 + 2, none⟩ = some (.int .i64 (L.getD k default).since) := rowI_at hR hk 2 (by omega)
  have f0 : w.frozen? ⟨g, i * 3, none⟩ = false := hR.frozen _
  have f1 : w.frozen? ⟨g, i * 3 + 1, none⟩ = false := hR.frozen _
  have f2 : w.frozen? ⟨g, i * 3 + 2, none⟩ = false := hR.frozen _
  have hi0 : (0 : Int) ≤ (i : Int) := by omega
  have hi1 : (i : Int) < (L.length : Int) := by omega
  have hk0 : (0 : Int) ≤ (k : Int) := by omega
  have hk1 : (k : Int) < (L.length : Int) := by omega
  have hsw : swapL L i k = (L.set i (L.getD k default)).set k (L.getD i default) := rfl
  generalize L.getD i default = x at a0 a1 a2 hsw
  generalize L.getD k default = y at b0 b1 b2 hsw
  have r1 := rowI_set hR hi y
  have hk' : k < (L.set i y).length := by rw [List.length_set]; exact hk
  have h1 := ((h.head.setCell_other ⟨g, i * 3, none⟩ (.int .i64 y.id) hbg).setCell_other ⟨g, i * 3 + 1, none⟩ (.int .i64 y.base) hbg).setCell_other ⟨g, i * 3 + 2, none⟩ (.int .i64 y.since) hbg
  have hm1 : Fr [g] w (((w.setCell ⟨g, i * 3, none⟩ (.int .i64 y.id)).setCell ⟨g, i * 3 + 1, none⟩ (.int .i64 y.base)).setCell ⟨g, i * 3 + 2, none⟩ (.int .i64 y.since)) :=
    (((Fr.refl [g] w).setCell (p := ⟨g, i * 3, none⟩) (.inl (by simp)) _).setCell (p := ⟨g, i * 3 + 1, none⟩) (.inl (by simp)) _).setCell (p := ⟨g, i * 3 + 2, none⟩) (.inl (by simp)) _
  have R1 := Lib.hid r1
  have H1 := Lib.hid h1
  have FM1 := Lib.hid hm1
  have K1 := Lib.hid (⟨h1.cell 1, h1.cell 2⟩ : (((w.setCell ⟨g, i * 3, none⟩ (.int .i64 y.id)).setCell ⟨g, i * 3 + 1, none⟩ (.int .i64 y.base)).setCell ⟨g, i * 3 + 2, none⟩ (.int .i64 y.since)).cell? ⟨b, 1, none⟩ = some (.slice (some ⟨g, 0, none⟩) L.length cap) ∧ (((w.setCell ⟨g, i * 3, none⟩ (.int .i64 y.id)).setCell ⟨g, i * 3 + 1, none⟩ (.int .i64 y.base)).setCell ⟨g, i * 3 + 2, none⟩ (.int .i64 y.since)).cell? ⟨b, 2, none⟩ = some (.map (some m)))
  have HSW := Lib.hid hsw
  have HK' := Lib.hid hk'
  clear hR h hgb r1 h1 hk' hm1 hsw
  go_enter Try.func26, Try.ntmps26
  go_wp2_with fail
  refine wp_region_held_drew (S := (fun w' => w'.cell? ⟨b, 1, none⟩ = some (.slice (some ⟨g, 0, none⟩) L.length cap) ∧ w'.cell? ⟨b, 2, none⟩ = some (.map (some m)))) (by kernel_rfl) ⟨c0, c1⟩ (fun hHeld => ?_)
  refine wpAnyH_take (i := 0) (v := ?_) rfl (by kernel_rfl) (by kernel_rfl) (by kernel_rfl) (fun _ _ _ h => h) (Or.inl ⟨rfl, ?_⟩) hHeld ?_
  rotate_left
  · (intro w hSw; (try dsimp only at hSw); go_simp; try (with_reducible rfl))
  simp only [List.getElem_toArray, List.getElem_cons_succ, List.getElem_cons_zero, Act.put, List.setIfInBounds_toArray, List.set_cons_zero, List.set_cons_succ]
  refine wpAnyH_take (i := 1) (v := ?_) rfl (by kernel_rfl) (by kernel_rfl) (by kernel_rfl) (fun _ _ _ h => h) (Or.inl ⟨rfl, ?_⟩) hHeld ?_
  rotate_left
  · (intro w hSw; (try dsimp only at hSw); go_simp; try (with_reducible rfl))
  simp only [List.getElem_toArray, List.getElem_cons_succ, List.getElem_cons_zero, Act.put, List.setIfInBounds_toArray, List.set_cons_zero, List.set_cons_succ]
  refine wpAnyH_take (i := 2) (v := ?_) rfl (by kernel_rfl) (by kernel_rfl) (by kernel_rfl) (fun _ _ _ h => h) (Or.inl ⟨rfl, ?_⟩) hHeld ?_
  rotate_left
  · (intro w hSw; (try dsimp only at hSw); go_simp; try (with_reducible rfl))
  simp only [List.getElem_toArray, List.getElem_cons_succ, List.getElem_cons_zero, Act.put, List.setIfInBounds_toArray, List.set_cons_zero, List.set_cons_succ]
  refine wpAnyH_take (i := 3) (v := ?_) rfl (by kernel_rfl) (by kernel_rfl) (by kernel_rfl) (fun _ _ _ h => h) (Or.inl ⟨rfl, ?_⟩) hHeld ?_
  rotate_left
  · (intro w hSw; (try dsimp only at hSw); go_simp; try (with_reducible rfl))
  simp only [List.getElem_toArray, List.getElem_cons_succ, List.getElem_cons_zero, Act.put, List.setIfInBounds_toArray, List.set_cons_zero, List.set_cons_succ]
  refine wpAnyH_take (i := 4) (v := ?_) rfl (by kernel_rfl) (by kernel_rfl) (by kernel_rfl) (fun _ _ _ h => h) (Or.inl ⟨rfl, ?_⟩) hHeld ?_
  rotate_left
  · (intro w hSw; (try dsimp only at hSw); go_simp; try (with_reducible rfl))
  simp only [List.getElem_toArray, List.getElem_cons_succ, List.getElem_cons_zero, Act.put, List.setIfInBounds_toArray, List.set_cons_zero, List.set_cons_succ]
  refine wpAnyH_take (i := 5) (v := ?_) rfl (by kernel_rfl) (by kernel_rfl) (by kernel_rfl) (fun _ _ _ h => h) (Or.inl ⟨rfl, ?_⟩) hHeld ?_
  rotate_left
  · (intro w hSw; (try dsimp only at hSw); go_simp; try (with_reducible rfl))
  simp only [List.getElem_toArray, List.getElem_cons_succ, List.getElem_cons_zero, Act.put, List.setIfInBounds_toArray, List.set_cons_zero, List.set_cons_succ]
  refine wpAnyH_take (i := 6) (v := ?_) rfl (by kernel_rfl) (by kernel_rfl) (by kernel_rfl) (fun _ _ _ h => h) (Or.inl ⟨rfl, ?_⟩) hHeld ?_
  rotate_left
  · (intro w hSw; (try dsimp only at hSw); go_simp; try (with_reducible rfl))
  simp only [List.getElem_toArray, List.getElem_cons_succ, List.getElem_cons_zero, Act.put, List.setIfInBounds_toArray, List.set_cons_zero, List.set_cons_succ]
  refine wpAnyH_take (i := 7) (v := ?_) rfl (by kernel_rfl) (by kernel_rfl) (by kernel_rfl) (fun _ _ _ h => h) (Or.inl ⟨rfl, ?_⟩) hHeld ?_
  rotate_left
  · (intro w hSw; (try dsimp only at hSw); go_simp; try (with_reducible rfl))
  simp only [List.getElem_toArray, List.getElem_cons_succ, List.getElem_cons_zero, Act.put, List.setIfInBounds_toArray, List.set_cons_zero, List.set_cons_succ]
  refine wpAnyH_take (i := 8) (v := ?_) rfl (by kernel_rfl) (by kernel_rfl) (by kernel_rfl) (fun _ _ _ h => h) (Or.inl ⟨rfl, ?_⟩) hHeld ?_
  rotate_left
  · (intro w hSw; (try dsimp only at hSw); go_simp; try (with_reducible rfl))
  simp only [List.getElem_toArray, List.getElem_cons_succ, List.getElem_cons_zero, Act.put, List.setIfInBounds_toArray, List.set_cons_zero, List.set_cons_succ]
  refine wpAnyH_take (i := 9) (v := ?_) rfl (by kernel_rfl) (by kernel_rfl) (by kernel_rfl) (fun _ _ _ h => h) (Or.inl ⟨rfl, ?_⟩) hHeld ?_
  rotate_left
  · (intro w hSw; (try dsimp only at hSw); go_simp; try (with_reducible rfl))
  simp only [List.getElem_toArray, List.getElem_cons_succ, List.getElem_cons_zero, Act.put, List.setIfInBounds_toArray, List.set_cons_zero, List.set_cons_succ]
  refine wpAnyH_take (i := 10) (v := ?_) rfl (by kernel_rfl) (by kernel_rfl) (by kernel_rfl) (fun _ _ _ h => h) (Or.inl ⟨rfl, ?_⟩) hHeld ?_
  rotate_left
  · (intro w hSw; (try dsimp only at hSw); go_simp; try (with_reducible rfl))
  simp only [List.getElem_toArray, List.getElem_cons_succ, List.getElem_cons_zero, Act.put, List.setIfInBounds_toArray, List.set_cons_zero, List.set_cons_succ]
  refine wpAnyH_take (i := 11) (v := ?_) rfl (by kernel_rfl) (by kernel_rfl) (by kernel_rfl) (fun _ _ _ h => h) (Or.inl ⟨rfl, ?_⟩) hHeld ?_
  rotate_left
  · (intro w hSw; (try dsimp only at hSw); go_simp; try (with_reducible rfl))
  simp only [List.getElem_toArray, List.getElem_cons_succ, List.getElem_cons_zero, Act.put, List.setIfInBounds_toArray, List.set_cons_zero, List.set_cons_succ]
  refine wpAnyH_take (i := 12) (v := ?_) rfl (by kernel_rfl) (by kernel_rfl) (by kernel_rfl) (fun _ _ _ h => h) (Or.inl ⟨rfl, ?_⟩) hHeld ?_
  rotate_left
  · (intro w hSw; (try dsimp only at hSw); go_simp; try (with_reducible rfl))
  simp only [List.getElem_toArray, List.getElem_cons_succ, List.getElem_cons_zero, Act.put, List.setIfInBounds_toArray, List.set_cons_zero, List.set_cons_succ]
  refine wpAnyH_take (i := 13) (v := ?_) rfl (by kernel_rfl) (by kernel_rfl) (by kernel_rfl) (fun _ _ _ h => h) (Or.inl ⟨rfl, ?_⟩) hHeld ?_
  rotate_left
  · (intro w hSw; (try dsimp only at hSw); go_simp; try (with_reducible rfl))
  simp only [List.getElem_toArray, List.getElem_cons_succ, List.getElem_cons_zero, Act.put, List.setIfInBounds_toArray, List.set_cons_zero, List.set_cons_succ]
  refine wpAnyH_take (i := 14) (v := ?_) rfl (by kernel_rfl) (by kernel_rfl) (by kernel_rfl) (fun _ _ _ h => h) (Or.inl ⟨rfl, ?_⟩) hHeld ?_
  rotate_left
  · (intro w hSw; (try dsimp only at hSw); go_simp; try (with_reducible rfl))
  simp only [List.getElem_toArray, List.getElem_cons_succ, List.getElem_cons_zero, Act.put, List.setIfInBounds_toArray, List.set_cons_zero, List.set_cons_succ]
  refine wpAnyH_take (i := 15) (v := ?_) rfl (by kernel_rfl) (by kernel_rfl) (by kernel_rfl) (fun _ _ _ h => h) (Or.inl ⟨rfl, ?_⟩) hHeld ?_
  rotate_left
  · (intro w hSw; (try dsimp only at hSw); go_simp; try (with_reducible rfl))
  simp only [List.getElem_toArray, List.getElem_cons_succ, List.getElem_cons_zero, Act.put, List.setIfInBounds_toArray, List.set_cons_zero, List.set_cons_succ]
  refine wpAnyH_take (i := 17) (v := ?_) rfl (by kernel_rfl) (by kernel_rfl) (by kernel_rfl) (fun _ _ _ h => h) (Or.inl ⟨rfl, ?_⟩) hHeld ?_
  rotate_left
  · (intro w hSw; (try dsimp only at hSw); go_simp; try (with_reducible rfl))
  simp only [List.getElem_toArray, List.getElem_cons_succ, List.getElem_cons_zero, Act.put, List.setIfInBounds_toArray, List.set_cons_zero, List.set_cons_succ]
  refine wpAnyH_take (i := 18) (v := ?_) rfl (by kernel_rfl) (by kernel_rfl) (by kernel_rfl) (fun _ _ _ h => h) (Or.inl ⟨rfl, ?_⟩) hHeld ?_
  rotate_left
  · (intro w hSw; (try dsimp only at hSw); go_simp; try (with_reducible rfl))
  simp only [List.getElem_toArray, List.getElem_cons_succ, List.getElem_cons_zero, Act.put, List.setIfInBounds_toArray, List.set_cons_zero, List.set_cons_succ]
  refine wpAnyH_take (i := 19) (v := ?_) rfl (by kernel_rfl) (by kernel_rfl) (by kernel_rfl) (fun _ _ _ h => h) (Or.inl ⟨rfl, ?_⟩) hHeld ?_
  rotate_left
  · (intro w hSw; (try dsimp only at hSw); go_simp; try (with_reducible rfl))
  simp only [List.getElem_toArray, List.getElem_cons_succ, List.getElem_cons_zero, Act.put, List.setIfInBounds_toArray, List.set_cons_zero, List.set_cons_succ]
  refine wpAnyH_take (i := 20) (v := ?_) rfl (by kernel_rfl) (by kernel_rfl) (by kernel_rfl) (fun _ _ _ h => h) (Or.inl ⟨rfl, ?_⟩) hHeld ?_
  rotate_left
  · (intro w hSw; (try dsimp only at hSw); go_simp; try (with_reducible rfl))
  simp only [List.getElem_toArray, List.getElem_cons_succ, List.getElem_cons_zero, Act.put, List.setIfInBounds_toArray, List.set_cons_zero, List.set_cons_succ]
  refine wpAnyH_take (i := 21) (v := ?_) rfl (by kernel_rfl) (by kernel_rfl) (by kernel_rfl) (fun _ _ _ h => h) (Or.inl ⟨rfl, ?_⟩) hHeld ?_
  rotate_left
  · (intro w hSw; (try dsimp only at hSw); go_simp; try (with_reducible rfl))
  simp only [List.getElem_toArray, List.getElem_cons_succ, List.getElem_cons_zero, Act.put, List.setIfInBounds_toArray, List.set_cons_zero, List.set_cons_succ]
  refine wpAnyH_take (i := 22) (v := ?_) rfl (by kernel_rfl) (by kernel_rfl) (by kernel_rfl) (fun _ _ _ h => h) (Or.inl ⟨rfl, ?_⟩) hHeld ?_
  rotate_left
  · (intro w hSw; (try dsimp only at hSw); go_simp; try (with_reducible rfl))
  simp only [List.getElem_toArray, List.getElem_cons_succ, List.getElem_cons_zero, Act.put, List.setIfInBounds_toArray, List.set_cons_zero, List.set_cons_succ]
  refine wpAnyH_ready (rs := [16, 23]) (by kernel_rfl) (by simp) ?_
  refine AllReadyH.cons rfl (fun K hK => ?_) (AllReadyH.cons rfl (fun K hK => ?_) AllReadyH.nil)
  · simp only [List.getElem_toArray, List.getElem_cons_succ, List.getElem_cons_zero]
    go_simp
    refine hK.out _ _ (by first | (exact ⟨c0, c1⟩) | go_keep) (fun hHeld => ?_)
    clear hK K
    refine wpAnyH_ready (rs := [23]) (by kernel_rfl) (by simp) ?_
    refine AllReadyH.cons rfl (fun K hK => ?_) AllReadyH.nil
    simp only [List.getElem_toArray, List.getElem_cons_succ, List.getElem_cons_zero]
    go_simp
    refine hK.out _ _ (by first | (exact ⟨c0, c1⟩) | go_keep) (fun hHeld => ?_)
    clear hK K
    refine wpAnyH_take (i := 24) (v := ?_) rfl (by kernel_rfl) (by kernel_rfl) (by kernel_rfl) (fun _ _ _ h => h) (Or.inl ⟨rfl, ?_⟩) hHeld ?_
    rotate_left
    · (intro w hSw; (try dsimp only at hSw); go_simp; try (with_reducible rfl))
    simp only [List.getElem_toArray, List.getElem_cons_succ, List.getElem_cons_zero, Act.put, List.setIfInBounds_toArray, List.set_cons_zero, List.set_cons_succ]
    refine wpAnyH_ready (rs := [25]) (by kernel_rfl) (by simp) ?_
    refine AllReadyH.cons rfl (fun K hK => ?_) AllReadyH.nil
    simp only [List.getElem_toArray, List.getElem_cons_succ, List.getElem_cons_zero]
    go_simp
    refine hK.out _ _ (by first | (exact K1.out) | go_keep) (fun hHeld => ?_)
    clear hK K
    generalize (((w.setCell ⟨g, i * 3, none⟩ (.int .i64 y.id)).setCell ⟨g, i * 3 + 1, none⟩ (.int .i64 y.base)).setCell ⟨g, i * 3 + 2, none⟩ (.int .i64 y.since)) = w1 at R1 H1 FM1 K1 hHeld ⊢
    clear a0 a1 a2 b0 b1 b2 f0 f1 f2
    have q0 : w1.cell? ⟨g, k * 3, none⟩ = some (.int .i64 ((L.set i y).getD k default).id) := rowI_at R1.out HK'.out 0 (by omega)
    have q1 : w1.cell? ⟨g, k * 3 + 1, none⟩ = some (.int .i64 ((L.set i y).getD k default).base) := rowI_at R1.out HK'.out 1 (by omega)
    have q2 : w1.cell? ⟨g, k * 3 + 2, none⟩ = some (.int .i64 ((L.set i y).getD k default).since) := rowI_at R1.out HK'.out 2 (by omega)
    have q3 := R1.out.frozen (k * 3)
    have q4 := R1.out.frozen (k * 3 + 1)
    have q5 := R1.out.frozen (k * 3 + 2)
    have h2 := ((H1.out.setCell_other ⟨g, k * 3, none⟩ (.int .i64 x.id) hbg).setCell_other ⟨g, k * 3 + 1, none⟩ (.int .i64 x.base) hbg).setCell_other ⟨g, k * 3 + 2, none⟩ (.int .i64 x.since) hbg
    have R2 := Lib.hid (rowI_set R1.out HK'.out x)
    have H2 := Lib.hid h2
    have K2 := Lib.hid (⟨h2.cell 1, h2.cell 2⟩ : (((w1.setCell ⟨g, k * 3, none⟩ (.int .i64 x.id)).setCell ⟨g, k * 3 + 1, none⟩ (.int .i64 x.base)).setCell ⟨g, k * 3 + 2, none⟩ (.int .i64 x.since)).cell? ⟨b, 1, none⟩ = some (.slice (some ⟨g, 0, none⟩) L.length cap) ∧ (((w1.setCell ⟨g, k * 3, none⟩ (.int .i64 x.id)).setCell ⟨g, k * 3 + 1, none⟩ (.int .i64 x.base)).setCell ⟨g, k * 3 + 2, none⟩ (.int .i64 x.since)).cell? ⟨b, 2, none⟩ = some (.map (some m)))
    have FM2 := Lib.hid ((((FM1.out).setCell (p := ⟨g, k * 3, none⟩) (.inl (by simp)) (.int .i64 x.id)).setCell (p := ⟨g, k * 3 + 1, none⟩) (.inl (by simp)) (.int .i64 x.base)).setCell (p := ⟨g, k * 3 + 2, none⟩) (.inl (by simp)) (.int .i64 x.since))
    clear h2
    refine wpAnyH_take (i := 26) (v := ?_) rfl (by kernel_rfl) (by kernel_rfl) (by kernel_rfl) (fun _ _ _ h => h) (Or.inl ⟨rfl, ?_⟩) hHeld ?_
    rotate_left
    · (intro w hSw; (try dsimp only at hSw); go_simp; try (with_reducible rfl))
    simp only [List.getElem_toArray, List.getElem_cons_succ, List.getElem_cons_zero, Act.put, List.setIfInBounds_toArray, List.set_cons_zero, List.set_cons_succ]
    refine wpAnyH_ready (rs := [27]) (by kernel_rfl) (by simp) ?_
    refine AllReadyH.cons rfl (fun K hK => ?_) AllReadyH.nil
    simp only [List.getElem_toArray, List.getElem_cons_succ, List.getElem_cons_zero]
    go_simp
    refine hK.out _ _ (by first | (exact K2.out) | go_keep) (fun hHeld => ?_)
    clear hK K
    refine wpAnyH_done (by kernel_rfl) ?_ _
    generalize ((w1.setCell ⟨g, k * 3, none⟩ (.int .i64 x.id)).setCell ⟨g, k * 3 + 1, none⟩ (.int .i64 x.base)).setCell ⟨g, k * 3 + 2, none⟩ (.int .i64 x.since) = w2 at R2 H2 FM2 K2 hHeld ⊢
    rw [← HSW.out] at R2
    clear q0 q1 q2 q3 q4 q5 hHeld
    have hL2 : (swapL L i k).length = L.length := swapL_length L i k
    have s0 : w2.cell? ⟨g, i * 3, none⟩ = some (.int .i64 ((swapL L i k).getD i default).id) := rowI_at R2.out (by rw [hL2]; exact hi) 0 (by omega)
    have s1 : w2.cell? ⟨g, k * 3, none⟩ = some (.int .i64 ((swapL L i k).getD k default).id) := rowI_at R2.out (by rw [hL2]; exact hk) 0 (by omega)
    have hin : ∀ j, j < L.length → inI ((swapL L i k).getD j default).id := fun j hj => swapL_id L i k hi hk hid j hj
    have hi1' := hin i hi
    have hk1' := hin k hk
    have hmp := (HH.out.map.fr FM2.out (by have h1 := HH.out.ml; have h2 := HG.out; simp; omega)).fr ((Fr.refl [] w2).drew.drew) (by simp)
    obtain ⟨v3, st3, w3, w4, run3, fr3, run4, mp4, fr4⟩ := hmp.entry (t := 62) Try.underlying3 Try.underlying62 (by unfold maxLen; omega) hi1' (v := (i : Int)) (hEg _ (by unfold inI; omega))
    obtain ⟨v5, st5, w5, w6, run5, fr5, run6, mp6, fr6⟩ := mp4.entry (t := 62) Try.underlying3 Try.underlying62 (by unfold maxLen; omega) hk1' (v := (k : Int)) (hEg _ (by unfold inI; omega))
    rw [hE] at run4 run6
    simp only [goInt] at run3 run4 run5 run6
    have MP6 := Lib.hid mp6
    have KS : ∀ w', Fr [m] w2.drew.drew w' → (w'.cell? ⟨b, 1, none⟩ = some (.slice (some ⟨g, 0, none⟩) L.length cap) ∧ w'.cell? ⟨b, 2, none⟩ = some (.map (some m)) ∧ w'.cell? ⟨g, i * 3, none⟩ = some (.int .i64 ((swapL L i k).getD i default).id) ∧ w'.cell? ⟨g, k * 3, none⟩ = some (.int .i64 ((swapL L i k).getD k default).id)) := by
      intro w' f
      have f2 : Fr [m] w2 w' := (((Fr.refl [] w2).drew.drew).mono (T := [m]) (by simp)).trans f (fun y hy => .inl hy)
      have hgm : g ≠ m := by have h1 := HH.out.ml; have h2 := HG.out; omega
      exact ⟨(H2.out.fr f2 (by simp; exact HH.out.ne)).cell 1, (H2.out.fr f2 (by simp; exact HH.out.ne)).cell 2, rowI_at (R2.out.fr f2 (by simp; exact hgm)) (by rw [hL2]; exact hi) 0 (by omega), rowI_at (R2.out.fr f2 (by simp; exact hgm)) (by rw [hL2]; exact hk) 0 (by omega)⟩
    have K3 := Lib.hid (KS w3 fr3)
    have K4 := Lib.hid (KS w4 fr4)
    have K5 := Lib.hid (KS w5 (fr4.trans fr5 (fun y hy => .inl hy)))
    have K6 := Lib.hid (KS w6 (fr4.trans fr6 (fun y hy => .inl hy)))
    have F6 := Lib.hid (fr4.trans fr6 (fun y hy => .inl hy))
    have K0 := Lib.hid (KS w2.drew.drew (Fr.refl _ _))
    generalize hII : ((swapL L i k).getD i default).id = ii at s0 run3 run4 MP6 K0 K3 K4 K5 K6
    generalize hKK : ((swapL L i k).getD k default).id = kk at s1 run5 run6 MP6 K0 K3 K4 K5 K6
    have HII := Lib.hid hII
    have HKK := Lib.hid hKK
    clear hin hi1' hk1' hmp fr3 fr4 fr5 fr6 mp4 mp6 KS hII hKK hL2
    go_wp2_with fail
    refine wp_region_held_drew (S := (fun w' => w'.cell? ⟨b, 1, none⟩ = some (.slice (some ⟨g, 0, none⟩) L.length cap) ∧ w'.cell? ⟨b, 2, none⟩ = some (.map (some m)) ∧ w'.cell? ⟨g, i * 3, none⟩ = some (.int .i64 ii) ∧ w'.cell? ⟨g, k * 3, none⟩ = some (.int .i64 kk))) (by kernel_rfl) (K0.out) (fun hHeld => ?_)
    refine wpAnyH_take (i := 0) (v := ?_) rfl (by kernel_rfl) (by kernel_rfl) (by kernel_rfl) (fun _ _ _ h => h) (Or.inl ⟨rfl, ?_⟩) hHeld ?_
    rotate_left
    · (intro w hSw; (try dsimp only at hSw); go_simp; try (with_reducible rfl))
    simp only [List.getElem_toArray, List.getElem_cons_succ, List.getElem_cons_zero, Act.put, List.setIfInBounds_toArray, List.set_cons_zero, List.set_cons_succ]
    refine wpAnyH_take (i := 1) (v := ?_) rfl (by kernel_rfl) (by kernel_rfl) (by kernel_rfl) (fun _ _ _ h => h) (Or.inl ⟨rfl, ?_⟩) hHeld ?_
    rotate_left
    · (intro w hSw; (try dsimp only at hSw); go_simp; try (with_reducible rfl))
    simp only [List.getElem_toArray, List.getElem_cons_succ, List.getElem_cons_zero, Act.put, List.setIfInBounds_toArray, List.set_cons_zero, List.set_cons_succ]
    refine wpAnyH_take (i := 2) (v := ?_) rfl (by kernel_rfl) (by kernel_rfl) (by kernel_rfl) (fun _ _ _ h => h) (Or.inl ⟨rfl, ?_⟩) hHeld ?_
    rotate_left
    · (intro w hSw; (try dsimp only at hSw); go_simp; try (with_reducible rfl))
    simp only [List.getElem_toArray, List.getElem_cons_succ, List.getElem_cons_zero, Act.put, List.setIfInBounds_toArray, List.set_cons_zero, List.set_cons_succ]
    refine wpAnyH_take (i := 3) (v := ?_) rfl (by kernel_rfl) (by kernel_rfl) (by kernel_rfl) (fun _ _ _ h => h) (Or.inl ⟨rfl, ?_⟩) hHeld ?_
    rotate_left
    · (intro w hSw; (try dsimp only at hSw); go_simp; try (with_reducible rfl))
    simp only [List.getElem_toArray, List.getElem_cons_succ, List.getElem_cons_zero, Act.put, List.setIfInBounds_toArray, List.set_cons_zero, List.set_cons_succ]
    refine wpAnyH_take (i := 4) (v := ?_) rfl (by kernel_rfl) (by kernel_rfl) (by kernel_rfl) (fun _ _ _ h => h) (Or.inl ⟨rfl, ?_⟩) hHeld ?_
    rotate_left
    · (intro w hSw; (try dsimp only at hSw); go_simp; try (with_reducible rfl))
    simp only [List.getElem_toArray, List.getElem_cons_succ, List.getElem_cons_zero, Act.put, List.setIfInBounds_toArray, List.set_cons_zero, List.set_cons_succ]
    refine wpAnyH_take (i := 5) (v := ?_) rfl (by kernel_rfl) (by kernel_rfl) (by kernel_rfl) (fun _ _ _ h => h) (Or.inl ⟨rfl, ?_⟩) hHeld ?_
    rotate_left
    · (intro w hSw; (try dsimp only at hSw); go_simp; try (with_reducible rfl))
    simp only [List.getElem_toArray, List.getElem_cons_succ, List.getElem_cons_zero, Act.put, List.setIfInBounds_toArray, List.set_cons_zero, List.set_cons_succ]
    refine wpAnyH_take (i := 6) (v := ?_) rfl (by kernel_rfl) (by kernel_rfl) (by kernel_rfl) (fun _ _ _ h => h) (Or.inl ⟨rfl, ?_⟩) hHeld ?_
    rotate_left
    · (intro w hSw; (try dsimp only at hSw); go_simp; try (with_reducible rfl))
    simp only [List.getElem_toArray, List.getElem_cons_succ, List.getElem_cons_zero, Act.put, List.setIfInBounds_toArray, List.set_cons_zero, List.set_cons_succ]
    refine wpAnyH_take (i := 7) (v := ?_) rfl (by kernel_rfl) (by kernel_rfl) (by kernel_rfl) (fun _ _ _ h => h) (Or.inl ⟨rfl, ?_⟩) hHeld ?_
    rotate_left
    · (intro w hSw; (try dsimp only at hSw); go_simp; try (with_reducible rfl))
    simp only [List.getElem_toArray, List.getElem_cons_succ, List.getElem_cons_zero, Act.put, List.setIfInBounds_toArray, List.set_cons_zero, List.set_cons_succ]
    refine wpAnyH_take (i := 8) (v := ?_) rfl (by kernel_rfl) (by kernel_rfl) (by kernel_rfl) (fun _ _ _ h => h) (Or.inl ⟨rfl, ?_⟩) hHeld ?_
    rotate_left
    · (intro w hSw; (try dsimp only at hSw); go_simp; try (with_reducible rfl))
    simp only [List.getElem_toArray, List.getElem_cons_succ, List.getElem_cons_zero, Act.put, List.setIfInBounds_toArray, List.set_cons_zero, List.set_cons_succ]
    refine wpAnyH_take (i := 9) (v := ?_) rfl (by kernel_rfl) (by kernel_rfl) (by kernel_rfl) (fun _ _ _ h => h) (Or.inl ⟨rfl, ?_⟩) hHeld ?_
    rotate_left
    · (intro w hSw; (try dsimp only at hSw); go_simp; try (with_reducible rfl))
    simp only [List.getElem_toArray, List.getElem_cons_succ, List.getElem_cons_zero, Act.put, List.setIfInBounds_toArray, List.set_cons_zero, List.set_cons_succ]
    refine wpAnyH_take (i := 10) (v := ?_) rfl (by kernel_rfl) (by kernel_rfl) (by kernel_rfl) (fun _ _ _ h => h) (Or.inl ⟨rfl, ?_⟩) hHeld ?_
    rotate_left
    · (intro w hSw; (try dsimp only at hSw); go_simp; try (with_reducible rfl))
    simp only [List.getElem_toArray, List.getElem_cons_succ, List.getElem_cons_zero, Act.put, List.setIfInBounds_toArray, List.set_cons_zero, List.set_cons_succ]
    refine wpAnyH_take (i := 11) (v := ?_) rfl (by kernel_rfl) (by kernel_rfl) (by kernel_rfl) (fun _ _ _ h => h) (Or.inl ⟨rfl, ?_⟩) hHeld ?_
    rotate_left
    · (intro w hSw; (try dsimp only at hSw); go_simp; try (with_reducible rfl))
    simp only [List.getElem_toArray, List.getElem_cons_succ, List.getElem_cons_zero, Act.put, List.setIfInBounds_toArray, List.set_cons_zero, List.set_cons_succ]
    refine wpAnyH_take (i := 12) (v := ?_) rfl (by kernel_rfl) (by kernel_rfl) (by kernel_rfl) (fun _ _ _ h => h) (Or.inl ⟨rfl, ?_⟩) hHeld ?_
    rotate_left
    · (intro w hSw; (try dsimp only at hSw); go_simp; try (with_reducible rfl))
    simp only [List.getElem_toArray, List.getElem_cons_succ, List.getElem_cons_zero, Act.put, List.setIfInBounds_toArray, List.set_cons_zero, List.set_cons_succ]
    refine wpAnyH_take (i := 13) (v := ?_) rfl (by kernel_rfl) (by kernel_rfl) (by kernel_rfl) (fun _ _ _ h => h) (Or.inl ⟨rfl, ?_⟩) hHeld ?_
    rotate_left
    · (intro w hSw; (try dsimp only at hSw); go_simp; try (with_reducible rfl))
    simp only [List.getElem_toArray, List.getElem_cons_succ, List.getElem_cons_zero, Act.put, List.setIfInBounds_toArray, List.set_cons_zero, List.set_cons_succ]
    refine wpAnyH_take (i := 14) (v := ?_) rfl (by kernel_rfl) (by kernel_rfl) (by kernel_rfl) (fun _ _ _ h => h) (Or.inl ⟨rfl, ?_⟩) hHeld ?_
    rotate_left
    · (intro w hSw; (try dsimp only at hSw); go_simp; try (with_reducible rfl))
    simp only [List.getElem_toArray, List.getElem_cons_succ, List.getElem_cons_zero, Act.put, List.setIfInBounds_toArray, List.set_cons_zero, List.set_cons_succ]
    refine wpAnyH_take (i := 15) (v := ?_) rfl (by kernel_rfl) (by kernel_rfl) (by kernel_rfl) (fun _ _ _ h => h) (Or.inl ⟨rfl, ?_⟩) hHeld ?_
    rotate_left
    · (intro w hSw; (try dsimp only at hSw); go_simp; try (with_reducible rfl))
    simp only [List.getElem_toArray, List.getElem_cons_succ, List.getElem_cons_zero, Act.put, List.setIfInBounds_toArray, List.set_cons_zero, List.set_cons_succ]
    refine wpAnyH_take (i := 16) (v := ?_) rfl (by kernel_rfl) (by kernel_rfl) (by kernel_rfl) (fun _ _ _ h => h) (Or.inl ⟨rfl, ?_⟩) hHeld ?_
    rotate_left
    · (intro w hSw; (try dsimp only at hSw); go_simp; try (with_reducible rfl))
    simp only [List.getElem_toArray, List.getElem_cons_succ, List.getElem_cons_zero, Act.put, List.setIfInBounds_toArray, List.set_cons_zero, List.set_cons_succ]
    refine wpAnyH_take (i := 17) (v := ?_) rfl (by kernel_rfl) (by kernel_rfl) (by kernel_rfl) (fun _ _ _ h => h) (Or.inl ⟨rfl, ?_⟩) hHeld ?_
    rotate_left
    · (intro w hSw; (try dsimp only at hSw); go_simp; try (with_reducible rfl))
    simp only [List.getElem_toArray, List.getElem_cons_succ, List.getElem_cons_zero, Act.put, List.setIfInBounds_toArray, List.set_cons_zero, List.set_cons_succ]
    refine wpAnyH_take (i := 18) (v := ?_) rfl (by kernel_rfl) (by kernel_rfl) (by kernel_rfl) (fun _ _ _ h => h) (Or.inl ⟨rfl, ?_⟩) hHeld ?_
    rotate_left
    · (intro w hSw; (try dsimp only at hSw); go_simp; try (with_reducible rfl))
    simp only [List.getElem_toArray, List.getElem_cons_succ, List.getElem_cons_zero, Act.put, List.setIfInBounds_toArray, List.set_cons_zero, List.set_cons_succ]
    refine wpAnyH_take (i := 19) (v := ?_) rfl (by kernel_rfl) (by kernel_rfl) (by kernel_rfl) (fun _ _ _ h => h) (Or.inl ⟨rfl, ?_⟩) hHeld ?_
    rotate_left
    · (intro w hSw; (try dsimp only at hSw); go_simp; try (with_reducible rfl))
    simp only [List.getElem_toArray, List.getElem_cons_succ, List.getElem_cons_zero, Act.put, List.setIfInBounds_toArray, List.set_cons_zero, List.set_cons_succ]
    refine wpAnyH_take (i := 20) (v := ?_) rfl (by kernel_rfl) (by kernel_rfl) (by kernel_rfl) (fun _ _ _ h => h) (Or.inl ⟨rfl, ?_⟩) hHeld ?_
    rotate_left
    · (intro w hSw; (try dsimp only at hSw); go_simp; try (with_reducible rfl))
    simp only [List.getElem_toArray, List.getElem_cons_succ, List.getElem_cons_zero, Act.put, List.setIfInBounds_toArray, List.set_cons_zero, List.set_cons_succ]
    refine wpAnyH_take (i := 21) (v := ?_) rfl (by kernel_rfl) (by kernel_rfl) (by kernel_rfl) (fun _ _ _ h => h) (Or.inl ⟨rfl, ?_⟩) hHeld ?_
    rotate_left
    · (intro w hSw; (try dsimp only at hSw); go_simp; try (with_reducible rfl))
    simp only [List.getElem_toArray, List.getElem_cons_succ, List.getElem_cons_zero, Act.put, List.setIfInBounds_toArray, List.set_cons_zero, List.set_cons_succ]
    refine wpAnyH_take (i := 22) (v := ?_) rfl (by kernel_rfl) (by kernel_rfl) (by kernel_rfl) (fun _ _ _ h => h) (Or.inl ⟨rfl, ?_⟩) hHeld ?_
    rotate_left
    · (intro w hSw; (try dsimp only at hSw); go_simp; try (with_reducible rfl))
    simp only [List.getElem_toArray, List.getElem_cons_succ, List.getElem_cons_zero, Act.put, List.setIfInBounds_toArray, List.set_cons_zero, List.set_cons_succ]
    refine wpAnyH_take (i := 23) (v := ?_) rfl (by kernel_rfl) (by kernel_rfl) (by kernel_rfl) (fun _ _ _ h => h) (Or.inl ⟨rfl, ?_⟩) hHeld ?_
    rotate_left
    · (intro w hSw; (try dsimp only at hSw); go_simp; try (with_reducible rfl))
    simp only [List.getElem_toArray, List.getElem_cons_succ, List.getElem_cons_zero, Act.put, List.setIfInBounds_toArray, List.set_cons_zero, List.set_cons_succ]
    refine wpAnyH_take (i := 24) (v := ?_) rfl (by kernel_rfl) (by kernel_rfl) (by kernel_rfl) (fun _ _ _ h => h) (Or.inl ⟨rfl, ?_⟩) hHeld ?_
    rotate_left
    · (intro w hSw; (try dsimp only at hSw); go_simp; try (with_reducible rfl))
    simp only [List.getElem_toArray, List.getElem_cons_succ, List.getElem_cons_zero, Act.put, List.setIfInBounds_toArray, List.set_cons_zero, List.set_cons_succ]
    refine wpAnyH_take (i := 25) (v := ?_) rfl (by kernel_rfl) (by kernel_rfl) (by kernel_rfl) (fun _ _ _ h => h) (Or.inl ⟨rfl, ?_⟩) hHeld ?_
    rotate_left
    · (intro w hSw; (try dsimp only at hSw); go_simp; try (with_reducible rfl))
    simp only [List.getElem_toArray, List.getElem_cons_succ, List.getElem_cons_zero, Act.put, List.setIfInBounds_toArray, List.set_cons_zero, List.set_cons_succ]
    refine wpAnyH_ready (rs := [26]) (by kernel_rfl) (by simp) ?_
    refine AllReadyH.cons rfl (fun K hK => ?_) AllReadyH.nil
    simp only [List.getElem_toArray, List.getElem_cons_succ, List.getElem_cons_zero]
    go_simp
    refine hK.out _ _ (by first | (exact K3.out) | go_keep) (fun hHeld => ?_)
    clear hK K
    refine wpAnyH_take (i := 27) (v := ?_) rfl (by kernel_rfl) (by kernel_rfl) (by kernel_rfl) (fun _ _ _ h => h) (Or.inl ⟨rfl, ?_⟩) hHeld ?_
    rotate_left
    · (intro w hSw; (try dsimp only at hSw); go_simp; try (with_reducible rfl))
    simp only [List.getElem_toArray, List.getElem_cons_succ, List.getElem_cons_zero, Act.put, List.setIfInBounds_toArray, List.set_cons_zero, List.set_cons_succ]
    refine wpAnyH_ready (rs := [28]) (by kernel_rfl) (by simp) ?_
    refine AllReadyH.cons rfl (fun K hK => ?_) AllReadyH.nil
    simp only [List.getElem_toArray, List.getElem_cons_succ, List.getElem_cons_zero]
    go_simp
    refine hK.out _ _ (by first | (exact K4.out) | go_keep) (fun hHeld => ?_)
    clear hK K
    refine wpAnyH_ready (rs := [29]) (by kernel_rfl) (by simp) ?_
    refine AllReadyH.cons rfl (fun K hK => ?_) AllReadyH.nil
    simp only [List.getElem_toArray, List.getElem_cons_succ, List.getElem_cons_zero]
    go_simp
    refine hK.out _ _ (by first | (exact K5.out) | go_keep) (fun hHeld => ?_)
    clear hK K
    refine wpAnyH_take (i := 30) (v := ?_) rfl (by kernel_rfl) (by kernel_rfl) (by kernel_rfl) (fun _ _ _ h => h) (Or.inl ⟨rfl, ?_⟩) hHeld ?_
    rotate_left
    · (intro w hSw; (try dsimp only at hSw); go_simp; try (with_reducible rfl))
    simp only [List.getElem_toArray, List.getElem_cons_succ, List.getElem_cons_zero, Act.put, List.setIfInBounds_toArray, List.set_cons_zero, List.set_cons_succ]
    refine wpAnyH_ready (rs := [31]) (by kernel_rfl) (by simp) ?_
    refine AllReadyH.cons rfl (fun K hK => ?_) AllReadyH.nil
    simp only [List.getElem_toArray, List.getElem_cons_succ, List.getElem_cons_zero]
    go_simp
    refine hK.out _ _ (by first | (exact K6.out) | go_keep) (fun hHeld => ?_)
    clear hK K
    refine wpAnyH_done (by kernel_rfl) ?_ _
    clear run3 run4 run5 run6 s0 s1 hHeld
    go_wp2_with fail
    go_end0
    have f26 : Fr [m] w2 w6 := (((Fr.refl [] w2).drew.drew).mono (T := [m]) (by simp)).trans F6.out (fun y hy => .inl hy)
    have hgm : g ≠ m := by have h1 := HH.out.ml; have h2 := HG.out; omega
    have hmp6 := MP6.out
    rw [← HII.out, ← HKK.out, posM_swap hi hk hnd] at hmp6
    refine ⟨rfl, ⟨H2.out.fr f26 (by simp; exact HH.out.ne), ?_, hmp6, HH.out.bl, HH.out.ml, HH.out.ne⟩, ?_⟩
    · have := row_own (base := base) HG.out (L := swapL L i k) (cap := cap) (by rw [swapL_length]; exact hlc) hcm (by rw [swapL_length]; exact hlC) (R2.out.fr f26 (by simp; exact hgm))
      rw [swapL_length] at this ⊢
      exact this
    · exact (FM2.out.mono (T := [m, g]) (by intro y hy; simp at hy; exact .inl (by simp [hy]))).trans f26 (by intro y hy; simp at hy; exact .inl (by simp [hy, Value.ownBlock]))
  · simp only [List.getElem_toArray, List.getElem_cons_succ, List.getElem_cons_zero]
    go_simp
    refine hK.out _ _ (by first | (exact ⟨c0, c1⟩) | go_keep) (fun hHeld => ?_)
    clear hK K
    refine wpAnyH_ready (rs := [16]) (by kernel_rfl) (by simp) ?_
    refine AllReadyH.cons rfl (fun K hK => ?_) AllReadyH.nil
    simp only [List.getElem_toArray, List.getElem_cons_succ, List.getElem_cons_zero]
    go_simp
    refine hK.out _ _ (by first | (exact ⟨c0, c1⟩) | go_keep) (fun hHeld => ?_)
    clear hK K
    refine wpAnyH_take (i := 24) (v := ?_) rfl (by kernel_rfl) (by kernel_rfl) (by kernel_rfl) (fun _ _ _ h => h) (Or.inl ⟨rfl, ?_⟩) hHeld ?_
    rotate_left
    · (intro w hSw; (try dsimp only at hSw); go_simp; try (with_reducible rfl))
    simp only [List.getElem_toArray, List.getElem_cons_succ, List.getElem_cons_zero, Act.put, List.setIfInBounds_toArray, List.set_cons_zero, List.set_cons_succ]
    refine wpAnyH_ready (rs := [25]) (by kernel_rfl) (by simp) ?_
    refine AllReadyH.cons rfl (fun K hK => ?_) AllReadyH.nil
    simp only [List.getElem_toArray, List.getElem_cons_succ, List.getElem_cons_zero]
    go_simp
    refine hK.out _ _ (by first | (exact K1.out) | go_keep) (fun hHeld => ?_)
    clear hK K
    generalize (((w.setCell ⟨g, i * 3, none⟩ (.int .i64 y.id)).setCell ⟨g, i * 3 + 1, none⟩ (.int .i64 y.base)).setCell ⟨g, i * 3 + 2, none⟩ (.int .i64 y.since)) = w1 at R1 H1 FM1 K1 hHeld ⊢
    clear a0 a1 a2 b0 b1 b2 f0 f1 f2
    have q0 : w1.cell? ⟨g, k * 3, none⟩ = some (.int .i64 ((L.set i y).getD k default).id) := rowI_at R1.out HK'.out 0 (by omega)
    have q1 : w1.cell? ⟨g, k * 3 + 1, none⟩ = some (.int .i64 ((L.set i y).getD k default).base) := rowI_at R1.out HK'.out 1 (by omega)
    have q2 : w1.cell? ⟨g, k * 3 + 2, none⟩ = some (.int .i64 ((L.set i y).getD k default).since) := rowI_at R1.out HK'.out 2 (by omega)
    have q3 := R1.out.frozen (k * 3)
    have q4 := R1.out.frozen (k * 3 + 1)
    have q5 := R1.out.frozen (k * 3 + 2)
    have h2 := ((H1.out.setCell_other ⟨g, k * 3, none⟩ (.int .i64 x.id) hbg).setCell_other ⟨g, k * 3 + 1, none⟩ (.int .i64 x.base) hbg).setCell_other ⟨g, k * 3 + 2, none⟩ (.int .i64 x.since) hbg
    have R2 := Lib.hid (rowI_set R1.out HK'.out x)
    have H2 := Lib.hid h2
    have K2 := Lib.hid (⟨h2.cell 1, h2.cell 2⟩ : (((w1.setCell ⟨g, k * 3, none⟩ (.int .i64 x.id)).setCell ⟨g, k * 3 + 1, none⟩ (.int .i64 x.base)).setCell ⟨g, k * 3 + 2, none⟩ (.int .i64 x.since)).cell? ⟨b, 1, none⟩ = some (.slice (some ⟨g, 0, none⟩) L.length cap) ∧ (((w1.setCell ⟨g, k * 3, none⟩ (.int .i64 x.id)).setCell ⟨g, k * 3 + 1, none⟩ (.int .i64 x.base)).setCell ⟨g, k * 3 + 2, none⟩ (.int .i64 x.since)).cell? ⟨b, 2, none⟩ = some (.map (some m)))
    have FM2 := Lib.hid ((((FM1.out).setCell (p := ⟨g, k * 3, none⟩) (.inl (by simp)) (.int .i64 x.id)).setCell (p := ⟨g, k * 3 + 1, none⟩) (.inl (by simp)) (.int .i64 x.base)).setCell (p := ⟨g, k * 3 + 2, none⟩) (.inl (by simp)) (.int .i64 x.since))
    clear h2
    refine wpAnyH_take (i := 26) (v := ?_) rfl (by kernel_rfl) (by kernel_rfl) (by kernel_rfl) (fun _ _ _ h => h) (Or.inl ⟨rfl, ?_⟩) hHeld ?_
    rotate_left
    · (intro w hSw; (try dsimp only at hSw); go_simp; try (with_reducible rfl))
    simp only [List.getElem_toArray, List.getElem_cons_succ, List.getElem_cons_zero, Act.put, List.setIfInBounds_toArray, List.set_cons_zero, List.set_cons_succ]
    refine wpAnyH_ready (rs := [27]) (by kernel_rfl) (by simp) ?_
    refine AllReadyH.cons rfl (fun K hK => ?_) AllReadyH.nil
    simp only [List.getElem_toArray, List.getElem_cons_succ, List.getElem_cons_zero]
    go_simp
    refine hK.out _ _ (by first | (exact K2.out) | go_keep) (fun hHeld => ?_)
    clear hK K
    refine wpAnyH_done (by kernel_rfl) ?_ _
    generalize ((w1.setCell ⟨g, k * 3, none⟩ (.int .i64 x.id)).setCell ⟨g, k * 3 + 1, none⟩ (.int .i64 x.base)).setCell ⟨g, k * 3 + 2, none⟩ (.int .i64 x.since) = w2 at R2 H2 FM2 K2 hHeld ⊢
    rw [← HSW.out] at R2
    clear q0 q1 q2 q3 q4 q5 hHeld
    have hL2 : (swapL L i k).length = L.length := swapL_length L i k
    have s0 : w2.cell? ⟨g, i * 3, none⟩ = some (.int .i64 ((swapL L i k).getD i default).id) := rowI_at R2.out (by rw [hL2]; exact hi) 0 (by omega)
    have s1 : w2.cell? ⟨g, k * 3, none⟩ = some (.int .i64 ((swapL L i k).getD k default).id) := rowI_at R2.out (by rw [hL2]; exact hk) 0 (by omega)
    have hin : ∀ j, j < L.length → inI ((swapL L i k).getD j default).id := fun j hj => swapL_id L i k hi hk hid j hj
    have hi1' := hin i hi
    have hk1' := hin k hk
    have hmp := (HH.out.map.fr FM2.out (by have h1 := HH.out.ml; have h2 := HG.out; simp; omega)).fr ((Fr.refl [] w2).drew.drew) (by simp)
    obtain ⟨v3, st3, w3, w4, run3, fr3, run4, mp4, fr4⟩ := hmp.entry (t := 62) Try.underlying3 Try.underlying62 (by unfold maxLen; omega) hi1' (v := (i : Int)) (hEg _ (by unfold inI; omega))
    obtain ⟨v5, st5, w5, w6, run5, fr5, run6, mp6, fr6⟩ := mp4.entry (t := 62) Try.underlying3 Try.underlying62 (by unfold maxLen; omega) hk1' (v := (k : Int)) (hEg _ (by unfold inI; omega))
    rw [hE] at run4 run6
    simp only [goInt] at run3 run4 run5 run6
    have MP6 := Lib.hid mp6
    have KS : ∀ w', Fr [m] w2.drew.drew w' → (w'.cell? ⟨b, 1, none⟩ = some (.slice (some ⟨g, 0, none⟩) L.length cap) ∧ w'.cell? ⟨b, 2, none⟩ = some (.map (some m)) ∧ w'.cell? ⟨g, i * 3, none⟩ = some (.int .i64 ((swapL L i k).getD i default).id) ∧ w'.cell? ⟨g, k * 3, none⟩ = some (.int .i64 ((swapL L i k).getD k default).id)) := by
      intro w' f
      have f2 : Fr [m] w2 w' := (((Fr.refl [] w2).drew.drew).mono (T := [m]) (by simp)).trans f (fun y hy => .inl hy)
      have hgm : g ≠ m := by have h1 := HH.out.ml; have h2 := HG.out; omega
      exact ⟨(H2.out.fr f2 (by simp; exact HH.out.ne)).cell 1, (H2.out.fr f2 (by simp; exact HH.out.ne)).cell 2, rowI_at (R2.out.fr f2 (by simp; exact hgm)) (by rw [hL2]; exact hi) 0 (by omega), rowI_at (R2.out.fr f2 (by simp; exact hgm)) (by rw [hL2]; exact hk) 0 (by omega)⟩
    have K3 := Lib.hid (KS w3 fr3)
    have K4 := Lib.hid (KS w4 fr4)
    have K5 := Lib.hid (KS w5 (fr4.trans fr5 (fun y hy => .inl hy)))
    have K6 := Lib.hid (KS w6 (fr4.trans fr6 (fun y hy => .inl hy)))
    have F6 := Lib.hid (fr4.trans fr6 (fun y hy => .inl hy))
    have K0 := Lib.hid (KS w2.drew.drew (Fr.refl _ _))
    generalize hII : ((swapL L i k).getD i default).id = ii at s0 run3 run4 MP6 K0 K3 K4 K5 K6
    generalize hKK : ((swapL L i k).getD k default).id = kk at s1 run5 run6 MP6 K0 K3 K4 K5 K6
    have HII := Lib.hid hII
    have HKK := Lib.hid hKK
    clear hin hi1' hk1' hmp fr3 fr4 fr5 fr6 mp4 mp6 KS hII hKK hL2
    go_wp2_with fail
    refine wp_region_held_drew (S := (fun w' => w'.cell? ⟨b, 1, none⟩ = some (.slice (some ⟨g, 0, none⟩) L.length cap) ∧ w'.cell? ⟨b, 2, none⟩ = some (.map (some m)) ∧ w'.cell? ⟨g, i * 3, none⟩ = some (.int .i64 ii) ∧ w'.cell? ⟨g, k * 3, none⟩ = some (.int .i64 kk))) (by kernel_rfl) (K0.out) (fun hHeld => ?_)
    refine wpAnyH_take (i := 0) (v := ?_) rfl (by kernel_rfl) (by kernel_rfl) (by kernel_rfl) (fun _ _ _ h => h) (Or.inl ⟨rfl, ?_⟩) hHeld ?_
    rotate_left
    · (intro w hSw; (try dsimp only at hSw); go_simp; try (with_reducible rfl))
    simp only [List.getElem_toArray, List.getElem_cons_succ, List.getElem_cons_zero, Act.put, List.setIfInBounds_toArray, List.set_cons_zero, List.set_cons_succ]
    refine wpAnyH_take (i := 1) (v := ?_) rfl (by kernel_rfl) (by kernel_rfl) (by kernel_rfl) (fun _ _ _ h => h) (Or.inl ⟨rfl, ?_⟩) hHeld ?_
    rotate_left
    · (intro w hSw; (try dsimp only at hSw); go_simp; try (with_reducible rfl))
    simp only [List.getElem_toArray, List.getElem_cons_succ, List.getElem_cons_zero, Act.put, List.setIfInBounds_toArray, List.set_cons_zero, List.set_cons_succ]
    refine wpAnyH_take (i := 2) (v := ?_) rfl (by kernel_rfl) (by kernel_rfl) (by kernel_rfl) (fun _ _ _ h => h) (Or.inl ⟨rfl, ?_⟩) hHeld ?_
    rotate_left
    · (intro w hSw; (try dsimp only at hSw); go_simp; try (with_reducible rfl))
    simp only [List.getElem_toArray, List.getElem_cons_succ, List.getElem_cons_zero, Act.put, List.setIfInBounds_toArray, List.set_cons_zero, List.set_cons_succ]
    refine wpAnyH_take (i := 3) (v := ?_) rfl (by kernel_rfl) (by kernel_rfl) (by kernel_rfl) (fun _ _ _ h => h) (Or.inl ⟨rfl, ?_⟩) hHeld ?_
    rotate_left
    · (intro w hSw; (try dsimp only at hSw); go_simp; try (with_reducible rfl))
    simp only [List.getElem_toArray, List.getElem_cons_succ, List.getElem_cons_zero, Act.put, List.setIfInBounds_toArray, List.set_cons_zero, List.set_cons_succ]
    refine wpAnyH_take (i := 4) (v := ?_) rfl (by kernel_rfl) (by kernel_rfl) (by kernel_rfl) (fun _ _ _ h => h) (Or.inl ⟨rfl, ?_⟩) hHeld ?_
    rotate_left
    · (intro w hSw; (try dsimp only at hSw); go_simp; try (with_reducible rfl))
    simp only [List.getElem_toArray, List.getElem_cons_succ, List.getElem_cons_zero, Act.put, List.setIfInBounds_toArray, List.set_cons_zero, List.set_cons_succ]
    refine wpAnyH_take (i := 5) (v := ?_) rfl (by kernel_rfl) (by kernel_rfl) (by kernel_rfl) (fun _ _ _ h => h) (Or.inl ⟨rfl, ?_⟩) hHeld ?_
    rotate_left
    · (intro w hSw; (try dsimp only at hSw); go_simp; try (with_reducible rfl))
    simp only [List.getElem_toArray, List.getElem_cons_succ, List.getElem_cons_zero, Act.put, List.setIfInBounds_toArray, List.set_cons_zero, List.set_cons_succ]
    refine wpAnyH_take (i := 6) (v := ?_) rfl (by kernel_rfl) (by kernel_rfl) (by kernel_rfl) (fun _ _ _ h => h) (Or.inl ⟨rfl, ?_⟩) hHeld ?_
    rotate_left
    · (intro w hSw; (try dsimp only at hSw); go_simp; try (with_reducible rfl))
    simp only [List.getElem_toArray, List.getElem_cons_succ, List.getElem_cons_zero, Act.put, List.setIfInBounds_toArray, List.set_cons_zero, List.set_cons_succ]
    refine wpAnyH_take (i := 7) (v := ?_) rfl (by kernel_rfl) (by kernel_rfl) (by kernel_rfl) (fun _ _ _ h => h) (Or.inl ⟨rfl, ?_⟩) hHeld ?_
    rotate_left
    · (intro w hSw; (try dsimp only at hSw); go_simp; try (with_reducible rfl))
    simp only [List.getElem_toArray, List.getElem_cons_succ, List.getElem_cons_zero, Act.put, List.setIfInBounds_toArray, List.set_cons_zero, List.set_cons_succ]
    refine wpAnyH_take (i := 8) (v := ?_) rfl (by kernel_rfl) (by kernel_rfl) (by kernel_rfl) (fun _ _ _ h => h) (Or.inl ⟨rfl, ?_⟩) hHeld ?_
    rotate_left
    · (intro w hSw; (try dsimp only at hSw); go_simp; try (with_reducible rfl))
    simp only [List.getElem_toArray, List.getElem_cons_succ, List.getElem_cons_zero, Act.put, List.setIfInBounds_toArray, List.set_cons_zero, List.set_cons_succ]
    refine wpAnyH_take (i := 9) (v := ?_) rfl (by kernel_rfl) (by kernel_rfl) (by kernel_rfl) (fun _ _ _ h => h) (Or.inl ⟨rfl, ?_⟩) hHeld ?_
    rotate_left
    · (intro w hSw; (try dsimp only at hSw); go_simp; try (with_reducible rfl))
    simp only [List.getElem_toArray, List.getElem_cons_succ, List.getElem_cons_zero, Act.put, List.setIfInBounds_toArray, List.set_cons_zero, List.set_cons_succ]
    refine wpAnyH_take (i := 10) (v := ?_) rfl (by kernel_rfl) (by kernel_rfl) (by kernel_rfl) (fun _ _ _ h => h) (Or.inl ⟨rfl, ?_⟩) hHeld ?_
    rotate_left
    · (intro w hSw; (try dsimp only at hSw); go_simp; try (with_reducible rfl))
    simp only [List.getElem_toArray, List.getElem_cons_succ, List.getElem_cons_zero, Act.put, List.setIfInBounds_toArray, List.set_cons_zero, List.set_cons_succ]
    refine wpAnyH_take (i := 11) (v := ?_) rfl (by kernel_rfl) (by kernel_rfl) (by kernel_rfl) (fun _ _ _ h => h) (Or.inl ⟨rfl, ?_⟩) hHeld ?_
    rotate_left
    · (intro w hSw; (try dsimp only at hSw); go_simp; try (with_reducible rfl))
    simp only [List.getElem_toArray, List.getElem_cons_succ, List.getElem_cons_zero, Act.put, List.setIfInBounds_toArray, List.set_cons_zero, List.set_cons_succ]
    refine wpAnyH_take (i := 12) (v := ?_) rfl (by kernel_rfl) (by kernel_rfl) (by kernel_rfl) (fun _ _ _ h => h) (Or.inl ⟨rfl, ?_⟩) hHeld ?_
    rotate_left
    · (intro w hSw; (try dsimp only at hSw); go_simp; try (with_reducible rfl))
    simp only [List.getElem_toArray, List.getElem_cons_succ, List.getElem_cons_zero, Act.put, List.setIfInBounds_toArray, List.set_cons_zero, List.set_cons_succ]
    refine wpAnyH_take (i := 13) (v := ?_) rfl (by kernel_rfl) (by kernel_rfl) (by kernel_rfl) (fun _ _ _ h => h) (Or.inl ⟨rfl, ?_⟩) hHeld ?_
    rotate_left
    · (intro w hSw; (try dsimp only at hSw); go_simp; try (with_reducible rfl))
    simp only [List.getElem_toArray, List.getElem_cons_succ, List.getElem_cons_zero, Act.put, List.setIfInBounds_toArray, List.set_cons_zero, List.set_cons_succ]
    refine wpAnyH_take (i := 14) (v := ?_) rfl (by kernel_rfl) (by kernel_rfl) (by kernel_rfl) (fun _ _ _ h => h) (Or.inl ⟨rfl, ?_⟩) hHeld ?_
    rotate_left
    · (intro w hSw; (try dsimp only at hSw); go_simp; try (with_reducible rfl))
    simp only [List.getElem_toArray, List.getElem_cons_succ, List.getElem_cons_zero, Act.put, List.setIfInBounds_toArray, List.set_cons_zero, List.set_cons_succ]
    refine wpAnyH_take (i := 15) (v := ?_) rfl (by kernel_rfl) (by kernel_rfl) (by kernel_rfl) (fun _ _ _ h => h) (Or.inl ⟨rfl, ?_⟩) hHeld ?_
    rotate_left
    · (intro w hSw; (try dsimp only at hSw); go_simp; try (with_reducible rfl))
    simp only [List.getElem_toArray, List.getElem_cons_succ, List.getElem_cons_zero, Act.put, List.setIfInBounds_toArray, List.set_cons_zero, List.set_cons_succ]
    refine wpAnyH_take (i := 16) (v := ?_) rfl (by kernel_rfl) (by kernel_rfl) (by kernel_rfl) (fun _ _ _ h => h) (Or.inl ⟨rfl, ?_⟩) hHeld ?_
    rotate_left
    · (intro w hSw; (try dsimp only at hSw); go_simp; try (with_reducible rfl))
    simp only [List.getElem_toArray, List.getElem_cons_succ, List.getElem_cons_zero, Act.put, List.setIfInBounds_toArray, List.set_cons_zero, List.set_cons_succ]
    refine wpAnyH_take (i := 17) (v := ?_) rfl (by kernel_rfl) (by kernel_rfl) (by kernel_rfl) (fun _ _ _ h => h) (Or.inl ⟨rfl, ?_⟩) hHeld ?_
    rotate_left
    · (intro w hSw; (try dsimp only at hSw); go_simp; try (with_reducible rfl))
    simp only [List.getElem_toArray, List.getElem_cons_succ, List.getElem_cons_zero, Act.put, List.setIfInBounds_toArray, List.set_cons_zero, List.set_cons_succ]
    refine wpAnyH_take (i := 18) (v := ?_) rfl (by kernel_rfl) (by kernel_rfl) (by kernel_rfl) (fun _ _ _ h => h) (Or.inl ⟨rfl, ?_⟩) hHeld ?_
    rotate_left
    · (intro w hSw; (try dsimp only at hSw); go_simp; try (with_reducible rfl))
    simp only [List.getElem_toArray, List.getElem_cons_succ, List.getElem_cons_zero, Act.put, List.setIfInBounds_toArray, List.set_cons_zero, List.set_cons_succ]
    refine wpAnyH_take (i := 19) (v := ?_) rfl (by kernel_rfl) (by kernel_rfl) (by kernel_rfl) (fun _ _ _ h => h) (Or.inl ⟨rfl, ?_⟩) hHeld ?_
    rotate_left
    · (intro w hSw; (try dsimp only at hSw); go_simp; try (with_reducible rfl))
    simp only [List.getElem_toArray, List.getElem_cons_succ, List.getElem_cons_zero, Act.put, List.setIfInBounds_toArray, List.set_cons_zero, List.set_cons_succ]
    refine wpAnyH_take (i := 20) (v := ?_) rfl (by kernel_rfl) (by kernel_rfl) (by kernel_rfl) (fun _ _ _ h => h) (Or.inl ⟨rfl, ?_⟩) hHeld ?_
    rotate_left
    · (intro w hSw; (try dsimp only at hSw); go_simp; try (with_reducible rfl))
    simp only [List.getElem_toArray, List.getElem_cons_succ, List.getElem_cons_zero, Act.put, List.setIfInBounds_toArray, List.set_cons_zero, List.set_cons_succ]
    refine wpAnyH_take (i := 21) (v := ?_) rfl (by kernel_rfl) (by kernel_rfl) (by kernel_rfl) (fun _ _ _ h => h) (Or.inl ⟨rfl, ?_⟩) hHeld ?_
    rotate_left
    · (intro w hSw; (try dsimp only at hSw); go_simp; try (with_reducible rfl))
    simp only [List.getElem_toArray, List.getElem_cons_succ, List.getElem_cons_zero, Act.put, List.setIfInBounds_toArray, List.set_cons_zero, List.set_cons_succ]
    refine wpAnyH_take (i := 22) (v := ?_) rfl (by kernel_rfl) (by kernel_rfl) (by kernel_rfl) (fun _ _ _ h => h) (Or.inl ⟨rfl, ?_⟩) hHeld ?_
    rotate_left
    · (intro w hSw; (try dsimp only at hSw); go_simp; try (with_reducible rfl))
    simp only [List.getElem_toArray, List.getElem_cons_succ, List.getElem_cons_zero, Act.put, List.setIfInBounds_toArray, List.set_cons_zero, List.set_cons_succ]
    refine wpAnyH_take (i := 23) (v := ?_) rfl (by kernel_rfl) (by kernel_rfl) (by kernel_rfl) (fun _ _ _ h => h) (Or.inl ⟨rfl, ?_⟩) hHeld ?_
    rotate_left
    · (intro w hSw; (try dsimp only at hSw); go_simp; try (with_reducible rfl))
    simp only [List.getElem_toArray, List.getElem_cons_succ, List.getElem_cons_zero, Act.put, List.setIfInBounds_toArray, List.set_cons_zero, List.set_cons_succ]
    refine wpAnyH_take (i := 24) (v := ?_) rfl (by kernel_rfl) (by kernel_rfl) (by kernel_rfl) (fun _ _ _ h => h) (Or.inl ⟨rfl, ?_⟩) hHeld ?_
    rotate_left
    · (intro w hSw; (try dsimp only at hSw); go_simp; try (with_reducible rfl))
    simp only [List.getElem_toArray, List.getElem_cons_succ, List.getElem_cons_zero, Act.put, List.setIfInBounds_toArray, List.set_cons_zero, List.set_cons_succ]
    refine wpAnyH_take (i := 25) (v := ?_) rfl (by kernel_rfl) (by kernel_rfl) (by kernel_rfl) (fun _ _ _ h => h) (Or.inl ⟨rfl, ?_⟩) hHeld ?_
    rotate_left
    · (intro w hSw; (try dsimp only at hSw); go_simp; try (with_reducible rfl))
    simp only [List.getElem_toArray, List.getElem_cons_succ, List.getElem_cons_zero, Act.put, List.setIfInBounds_toArray, List.set_cons_zero, List.set_cons_succ]
    refine wpAnyH_ready (rs := [26]) (by kernel_rfl) (by simp) ?_
    refine AllReadyH.cons rfl (fun K hK => ?_) AllReadyH.nil
    simp only [List.getElem_toArray, List.getElem_cons_succ, List.getElem_cons_zero]
    go_simp
    refine hK.out _ _ (by first | (exact K3.out) | go_keep) (fun hHeld => ?_)
    clear hK K
    refine wpAnyH_take (i := 27) (v := ?_) rfl (by kernel_rfl) (by kernel_rfl) (by kernel_rfl) (fun _ _ _ h => h) (Or.inl ⟨rfl, ?_⟩) hHeld ?_
    rotate_left
    · (intro w hSw; (try dsimp only at hSw); go_simp; try (with_reducible rfl))
    simp only [List.getElem_toArray, List.getElem_cons_succ, List.getElem_cons_zero, Act.put, List.setIfInBounds_toArray, List.set_cons_zero, List.set_cons_succ]
    refine wpAnyH_ready (rs := [28]) (by kernel_rfl) (by simp) ?_
    refine AllReadyH.cons rfl (fun K hK => ?_) AllReadyH.nil
    simp only [List.getElem_toArray, List.getElem_cons_succ, List.getElem_cons_zero]
    go_simp
    refine hK.out _ _ (by first | (exact K4.out) | go_keep) (fun hHeld => ?_)
    clear hK K
    refine wpAnyH_ready (rs := [29]) (by kernel_rfl) (by simp) ?_
    refine AllReadyH.cons rfl (fun K hK => ?_) AllReadyH.nil
    simp only [List.getElem_toArray, List.getElem_cons_succ, List.getElem_cons_zero]
    go_simp
    refine hK.out _ _ (by first | (exact K5.out) | go_keep) (fun hHeld => ?_)
    clear hK K
    refine wpAnyH_take (i := 30) (v := ?_) rfl (by kernel_rfl) (by kernel_rfl) (by kernel_rfl) (fun _ _ _ h => h) (Or.inl ⟨rfl, ?_⟩) hHeld ?_
    rotate_left
    · (intro w hSw; (try dsimp only at hSw); go_simp; try (with_reducible rfl))
    simp only [List.getElem_toArray, List.getElem_cons_succ, List.getElem_cons_zero, Act.put, List.setIfInBounds_toArray, List.set_cons_zero, List.set_cons_succ]
    refine wpAnyH_ready (rs := [31]) (by kernel_rfl) (by simp) ?_
    refine AllReadyH.cons rfl (fun K hK => ?_) AllReadyH.nil
    simp only [List.getElem_toArray, List.getElem_cons_succ, List.getElem_cons_zero]
    go_simp
    refine hK.out _ _ (by first | (exact K6.out) | go_keep) (fun hHeld => ?_)
    clear hK K
    refine wpAnyH_done (by kernel_rfl) ?_ _
    clear run3 run4 run5 run6 s0 s1 hHeld
    go_wp2_with fail
    go_end0
    have f26 : Fr [m] w2 w6 := (((Fr.refl [] w2).drew.drew).mono (T := [m]) (by simp)).trans F6.out (fun y hy => .inl hy)
    have hgm : g ≠ m := by have h1 := HH.out.ml; have h2 := HG.out; omega
    have hmp6 := MP6.out
    rw [← HII.out, ← HKK.out, posM_swap hi hk hnd] at hmp6
    refine ⟨rfl, ⟨H2.out.fr f26 (by simp; exact HH.out.ne), ?_, hmp6, HH.out.bl, HH.out.ml, HH.out.ne⟩, ?_⟩
    · have := row_own (base := base) HG.out (L := swapL L i k) (cap := cap) (by rw [swapL_length]; exact hlc) hcm (by rw [swapL_length]; exact hlC) (R2.out.fr f26 (by simp; exact hgm))
      rw [swapL_length] at this ⊢
      exact this
    · exact (FM2.out.mono (T := [m, g]) (by intro y hy; simp at hy; exact .inl (by simp [hy]))).trans f26 (by intro y hy; simp at hy; exact .inl (by simp [hy, Value.ownBlock]))
end Go.Proofs.Ytpjmmhpkiepbmaa
