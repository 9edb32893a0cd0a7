/- The heap's order, on plain lists. -/
import Derived.Test.YtpjmmhpkiepbmaaHp10
set_option linter.unusedVariables false
set_option linter.unusedSimpArgs false
namespace Go.Proofs.Ytpjmmhpkiepbmaa
theorem ahead_trans {s : Int} {x y z : ItD} (h1 : aheadB s x y = true) (h2 : aheadB s y z = true) : aheadB s x z = true := by
  unfold aheadB at *; simp at *; omega
theorem na_trans {s : Int} {x y z : ItD} (h1 : aheadB s x y = false) (h2 : aheadB s y z = false) : aheadB s x z = false := by
  unfold aheadB at *; simp at *; omega
theorem ahead_irr (s : Int) (x : ItD) : aheadB s x x = false := by
  unfold aheadB; simp
theorem ahead_asymm {s : Int} {x y : ItD} (h : aheadB s x y = true) : aheadB s y x = false := by
  unfold aheadB at *; simp at *; omega
theorem na_of {s : Int} {x y z : ItD} (h : aheadB s x y = true) (h2 : aheadB s z y = false) : aheadB s z x = false := by
  unfold aheadB at *; simp at *; omega
theorem ahead_total {s : Int} {x y : ItD} (hn : x.id ≠ y.id) (h : aheadB s x y = false) : aheadB s y x = true := by
  unfold aheadB at *; simp at *; omega
theorem ahead_both {s : Int} {x y : ItD} (h : aheadB s x y = false) (h2 : aheadB s y x = false) : x.id = y.id := by
  unfold aheadB at *; simp at *; omega
abbrev gI (L : List ItD) (j : Nat) : ItD := L.getD j default
/-- No item is ahead of the one above it. -/
def HeapO (s : Int) (L : List ItD) : Prop := ∀ j, 0 < j → j < L.length → aheadB s (gI L j) (gI L ((j - 1) / 2)) = false
def InvU (s : Int) (L : List ItD) (i : Nat) : Prop :=
  (∀ j, 0 < j → j < L.length → j ≠ i → (j - 1) / 2 ≠ i → aheadB s (gI L j) (gI L ((j - 1) / 2)) = false) ∧ (0 < i → ∀ c, 0 < c → c < L.length → (c - 1) / 2 = i → aheadB s (gI L c) (gI L ((i - 1) / 2)) = false)
def InvF (s : Int) (L : List ItD) (i : Nat) : Prop :=
  (∀ j, 0 < j → j < L.length → j ≠ i → aheadB s (gI L j) (gI L ((j - 1) / 2)) = false) ∧ (0 < i → ∀ c, 0 < c → c < L.length → (c - 1) / 2 = i → aheadB s (gI L c) (gI L ((i - 1) / 2)) = false)
def InvD (s : Int) (L : List ItD) (i : Nat) : Prop :=
  (∀ j, 0 < j → j < L.length → (j - 1) / 2 ≠ i → aheadB s (gI L j) (gI L ((j - 1) / 2)) = false) ∧ (0 < i → ∀ c, 0 < c → c < L.length → (c - 1) / 2 = i → aheadB s (gI L c) (gI L ((i - 1) / 2)) = false)
theorem InvF.u {s : Int} {L : List ItD} {i : Nat} (h : InvF s L i) : InvU s L i := ⟨fun j h0 hj hi _ => h.1 j h0 hj hi, h.2⟩
theorem HeapO.d {s : Int} {L : List ItD} (h : HeapO s L) (i : Nat) (hi : i < L.length) : InvD s L i :=
  ⟨fun j h0 hj _ => h j h0 hj, fun h0 c hc0 hc he => by
    have h1 := h c hc0 hc
    rw [he] at h1
    exact na_trans h1 (h i h0 hi)⟩
theorem up_turn {s : Int} {L : List ItD} {i : Nat} (hi : i < L.length) (h : InvU s L i) (h0 : 0 < i) (ha : aheadB s (gI L i) (gI L ((i - 1) / 2)) = true) : InvF s (swapL L i ((i - 1) / 2)) ((i - 1) / 2) := by
  have hk : (i - 1) / 2 < L.length := by omega
  have hki : (i - 1) / 2 < i := by omega
  generalize hkk : (i - 1) / 2 = k at *
  have g : ∀ j, gI (swapL L i k) j = if j = k then gI L i else if j = i then gI L k else gI L j := swapL_get L i k hi hk
  constructor
  · intro j hj0 hj hjk
    rw [swapL_length] at hj
    rw [g j, g ((j - 1) / 2), if_neg hjk]
    by_cases hji : j = i
    · subst hji
      rw [if_pos rfl, hkk, if_pos rfl]
      exact ahead_asymm ha
    rw [if_neg hji]
    by_cases hpk : (j - 1) / 2 = k
    · rw [if_pos hpk]
      have h1 := h.1 j hj0 hj hji (by omega)
      rw [hpk] at h1
      exact na_of ha h1
    rw [if_neg hpk]
    by_cases hpi : (j - 1) / 2 = i
    · rw [if_pos hpi]
      have h2 := h.2 h0 j hj0 hj hpi
      rw [hkk] at h2
      exact h2
    · rw [if_neg hpi]
      exact h.1 j hj0 hj hji hpi
  · intro hk0 c hc0 hc hck
    rw [swapL_length] at hc
    have hq : (k - 1) / 2 < k := by omega
    rw [g c, g ((k - 1) / 2), if_neg (show c ≠ k by omega), if_neg (show (k - 1) / 2 ≠ k by omega), if_neg (show (k - 1) / 2 ≠ i by omega)]
    have h1 := h.1 k hk0 hk (by omega) (by omega)
    by_cases hci : c = i
    · rw [if_pos hci]
      exact h1
    · rw [if_neg hci]
      have h2 := h.1 c hc0 hc hci (by omega)
      rw [hck] at h2
      exact na_trans h2 h1
theorem up_full (s : Int) : ∀ (i : Nat) (L : List ItD), i < L.length → InvF s L i → HeapO s (upL s L i) := by
  intro i
  induction i using Nat.strongRecOn with
  | _ i ih =>
    intro L hi h
    by_cases hc : 0 < i ∧ aheadB s (gI L i) (gI L ((i - 1) / 2)) = true
    · rw [upL_go hc.1 hc.2]
      exact ih _ (by omega) _ (by rw [swapL_length]; omega) (up_turn hi h.u hc.1 hc.2)
    · rw [upL, dif_neg hc]
      intro j hj0 hj
      by_cases hji : j = i
      · subst hji
        by_cases ha : aheadB s (gI L j) (gI L ((j - 1) / 2)) = true
        · exact absurd ⟨hj0, ha⟩ hc
        · exact Bool.eq_false_iff.2 ha
      · exact h.1 j hj0 hj hji
theorem up_or {s : Int} {L : List ItD} {i : Nat} (hi : i < L.length) (h : InvU s L i) : HeapO s (upL s L i) ∨ upL s L i = L ∧ InvD s L i := by
  by_cases hc : 0 < i ∧ aheadB s (gI L i) (gI L ((i - 1) / 2)) = true
  · left
    rw [upL_go hc.1 hc.2]
    exact up_full s _ _ (by rw [swapL_length]; omega) (up_turn hi h hc.1 hc.2)
  · right
    refine ⟨by rw [upL, dif_neg hc], fun j hj0 hj hp => ?_, h.2⟩
    by_cases hji : j = i
    · subst hji
      by_cases ha : aheadB s (gI L j) (gI L ((j - 1) / 2)) = true
      · exact absurd ⟨hj0, ha⟩ hc
      · exact Bool.eq_false_iff.2 ha
    · exact h.1 j hj0 hj hji hp
theorem best_spec (s : Int) (L : List ItD) (i : Nat) : (bestTo s L i 2 = i ∨ bestTo s L i 2 = 2 * i + 1 ∨ bestTo s L i 2 = 2 * i + 2) ∧ (bestTo s L i 2 ≠ i → aheadB s (gI L (bestTo s L i 2)) (gI L i) = true) ∧ ∀ c, (c = 2 * i + 1 ∨ c = 2 * i + 2) → c < L.length → aheadB s (gI L c) (gI L (bestTo s L i 2)) = false := by
  have e2 : bestTo s L i 2 = if 2 * i + 2 < L.length ∧ aheadB s (gI L (2 * i + 2)) (gI L (bestTo s L i 1)) = true then 2 * i + 2 else bestTo s L i 1 := rfl
  have e1 : bestTo s L i 1 = if 2 * i + 1 < L.length ∧ aheadB s (gI L (2 * i + 1)) (gI L i) = true then 2 * i + 1 else i := rfl
  have f : ∀ {P : Prop} {x y : ItD}, ¬ (P ∧ aheadB s x y = true) → P → aheadB s x y = false := fun h hp => Bool.eq_false_iff.2 fun h2 => h ⟨hp, h2⟩
  by_cases h1 : 2 * i + 1 < L.length ∧ aheadB s (gI L (2 * i + 1)) (gI L i) = true
  · rw [if_pos h1] at e1
    rw [e1] at e2
    by_cases h2 : 2 * i + 2 < L.length ∧ aheadB s (gI L (2 * i + 2)) (gI L (2 * i + 1)) = true
    · rw [if_pos h2] at e2
      rw [e2]
      refine ⟨.inr (.inr rfl), fun _ => ahead_trans h2.2 h1.2, fun c hc hcl => ?_⟩
      rcases hc with rfl | rfl
      · exact ahead_asymm h2.2
      · exact ahead_irr s _
    · rw [if_neg h2] at e2
      rw [e2]
      refine ⟨.inr (.inl rfl), fun _ => h1.2, fun c hc hcl => ?_⟩
      rcases hc with rfl | rfl
      · exact ahead_irr s _
      · exact f h2 hcl
  · rw [if_neg h1] at e1
    rw [e1] at e2
    by_cases h2 : 2 * i + 2 < L.length ∧ aheadB s (gI L (2 * i + 2)) (gI L i) = true
    · rw [if_pos h2] at e2
      rw [e2]
      refine ⟨.inr (.inr rfl), fun _ => h2.2, fun c hc hcl => ?_⟩
      rcases hc with rfl | rfl
      · exact na_of h2.2 (f h1 hcl)
      · exact ahead_irr s _
    · rw [if_neg h2] at e2
      rw [e2]
      refine ⟨.inl rfl, fun h => absurd rfl h, fun c hc hcl => ?_⟩
      rcases hc with rfl | rfl
      · exact f h1 hcl
      · exact f h2 hcl
theorem down_full (s : Int) : ∀ (d i : Nat) (L : List ItD), L.length - i = d → i < L.length → InvD s L i → HeapO s (downL s L i) := by
  intro d
  induction d using Nat.strongRecOn with
  | _ d ih =>
    intro i L hd hi h
    obtain ⟨hb, hba, hbc⟩ := best_spec s L i
    have hbl := bestTo_lt s L i hi 2
    by_cases hbi : bestTo s L i 2 = i
    · rw [downL_stop hbi]
      rw [hbi] at hbc
      intro j hj0 hj
      by_cases hp : (j - 1) / 2 = i
      · rw [hp]
        exact hbc j (by omega) hj
      · exact h.1 j hj0 hj hp
    · rw [downL_go hi hbi]
      have hba := hba hbi
      generalize bestTo s L i 2 = b at *
      have hbp : (b - 1) / 2 = i := by omega
      have hib : i < b := by omega
      have g : ∀ j, gI (swapL L i b) j = if j = b then gI L i else if j = i then gI L b else gI L j := swapL_get L i b hi hbl
      refine ih (L.length - b) (by omega) b _ (by rw [swapL_length]) (by rw [swapL_length]; exact hbl) ⟨?_, ?_⟩
      · intro j hj0 hj hp
        rw [swapL_length] at hj
        rw [g j, g ((j - 1) / 2), if_neg hp]
        by_cases hjb : j = b
        · rw [if_pos hjb, hjb, if_pos hbp]
          exact ahead_asymm hba
        rw [if_neg hjb]
        by_cases hji : j = i
        · rw [if_pos hji, if_neg (show (j - 1) / 2 ≠ i by omega)]
          have h2 := h.2 (by omega) b (by omega) hbl hbp
          rw [hji]
          exact h2
        rw [if_neg hji]
        by_cases hpi : (j - 1) / 2 = i
        · rw [if_pos hpi]
          exact hbc j (by omega) hj
        · rw [if_neg hpi]
          exact h.1 j hj0 hj hpi
      · intro hb0 c hc0 hc hcb
        rw [swapL_length] at hc
        rw [hbp, g c, g i, if_neg (show c ≠ b by omega), if_neg (show c ≠ i by omega), if_neg (show i ≠ b by omega), if_pos rfl]
        have h2 := h.1 c hc0 hc (by omega)
        rw [hcb] at h2
        exact h2
theorem heap_first {s : Int} {L : List ItD} (h : HeapO s L) : ∀ j, j < L.length → aheadB s (gI L j) (gI L 0) = false := by
  intro j
  induction j using Nat.strongRecOn with
  | _ j ih =>
    intro hj
    by_cases h0 : j = 0
    · subst h0; exact ahead_irr s _
    · exact na_trans (h j (by omega) hj) (ih _ (by omega) (by omega))
theorem cut_invU {s : Int} {L : List ItD} {i : Nat} (h : HeapO s L) (hi : i < L.length - 1) : InvU s (cutL L i) i := by
  have g : ∀ j, j < L.length - 1 → gI (cutL L i) j = if j = i then gI L (L.length - 1) else gI L j := fun j hj => cutL_get L i j (by omega) hj
  refine ⟨fun j hj0 hj hji hp => ?_, fun h0 c hc0 hc hci => ?_⟩
  · rw [cutL_length] at hj
    rw [g j hj, g _ (by omega), if_neg hji, if_neg hp]
    exact h j hj0 (by omega)
  · rw [cutL_length] at hc
    rw [g c hc, g _ (by omega), if_neg (by omega), if_neg (by omega)]
    have h1 := h c hc0 (by omega)
    rw [hci] at h1
    exact na_trans h1 (h i h0 (by omega))
theorem remL_heap {s : Int} {L : List ItD} {i : Nat} (h : HeapO s L) (hi : i < L.length) : HeapO s (remL s L i) := by
  unfold remL
  split
  · rename_i hil
    have hc : i < (cutL L i).length := by rw [cutL_length]; exact hil
    have hul : (upL s (cutL L i) i).length = (cutL L i).length := (upL_inv s (fun _ => True) (fun _ _ _ _ _ _ => trivial) i _ hc trivial).2
    have hd : InvD s (upL s (cutL L i) i) i := by
      rcases up_or hc (cut_invU h hil) with h1 | ⟨h1, h2⟩
      · exact h1.d i (by rw [hul]; exact hc)
      · rw [h1]; exact h2
    exact down_full s _ i _ rfl (by rw [hul]; exact hc) hd
  · intro j hj0 hj
    rw [cutL_length] at hj
    have e1 := cutL_get L i j hi hj
    have e2 := cutL_get L i ((j - 1) / 2) hi (by omega)
    rw [if_neg (by omega)] at e1 e2
    rw [show gI (cutL L i) j = _ from e1, show gI (cutL L i) ((j - 1) / 2) = _ from e2]
    exact h j hj0 (by omega)
theorem put_heap {s : Int} {L : List ItD} (x : ItD) (h : HeapO s L) : HeapO s (upL s (L ++ [x]) L.length) := by
  refine up_full s _ _ (by simp) ⟨fun j hj0 hj hji => ?_, fun h0 c hc0 hc hci => ?_⟩
  · rw [List.length_append, List.length_singleton] at hj
    rw [show gI (L ++ [x]) j = gI L j from getD_snoc_lt L x j (by omega), show gI (L ++ [x]) ((j - 1) / 2) = gI L ((j - 1) / 2) from getD_snoc_lt L x _ (by omega)]
    exact h j hj0 (by omega)
  · rw [List.length_append, List.length_singleton] at hc
    omega
theorem heapO_nil (s : Int) : HeapO s [] := fun j _ hj => absurd hj (by simp)
theorem getD_lt {α : Type} [Inhabited α] (L : List α) (i : Nat) (h : i < L.length) : L.getD i default = L[i] := by
  rw [List.getD_eq_getElem?_getD, List.getElem?_eq_getElem h]
  rfl
theorem swapL_perm {L : List ItD} {i k : Nat} (hi : i < L.length) (hk : k < L.length) : (swapL L i k).Perm L := by
  unfold swapL
  rw [getD_lt _ _ hi, getD_lt _ _ hk]
  exact List.set_set_perm hi hk
theorem upL_perm {s : Int} {L : List ItD} {i : Nat} (hi : i < L.length) : (upL s L i).Perm L :=
  (upL_inv s (fun M => M.Perm L) (fun M i k h hi hk => (swapL_perm hi hk).trans h) i L hi (List.Perm.refl L)).1
theorem downL_perm {s : Int} {L : List ItD} {i : Nat} (hi : i < L.length) : (downL s L i).Perm L :=
  (downL_inv s (fun M => M.Perm L) (fun M i k h hi hk => (swapL_perm hi hk).trans h) _ i L rfl hi (List.Perm.refl L)).1
theorem cutL_snoc {L : List ItD} {i : Nat} (hi : i < L.length) : cutL L i ++ [gI L i] = swapL L i (L.length - 1) := by
  have hl1 : L.length - 1 < (swapL L i (L.length - 1)).length := by rw [swapL_length]; omega
  have ht : (swapL L i (L.length - 1)).take (L.length - 1 + 1) = swapL L i (L.length - 1) := List.take_of_length_le (by rw [swapL_length]; omega)
  rw [← ht, List.take_add_one, getD_at _ _ hl1, swapL_get L i _ hi (by omega), if_pos rfl]
  rfl
theorem cutL_perm {L : List ItD} {i : Nat} (hi : i < L.length) : (gI L i :: cutL L i).Perm L :=
  ((List.perm_append_singleton _ _).symm.trans (by rw [cutL_snoc hi])).trans (swapL_perm hi (by omega))
theorem remL_perm {s : Int} {L : List ItD} {i : Nat} (hi : i < L.length) : (gI L i :: remL s L i).Perm L := by
  refine List.Perm.trans (List.Perm.cons _ ?_) (cutL_perm hi)
  unfold remL
  split
  · rename_i hil
    have hc : i < (cutL L i).length := by rw [cutL_length]; exact hil
    exact (downL_perm (by rw [(upL_perm hc).length_eq]; exact hc)).trans (upL_perm hc)
  · exact List.Perm.refl _
theorem put_perm {s : Int} {L : List ItD} (x : ItD) : (upL s (L ++ [x]) L.length).Perm (x :: L) :=
  (upL_perm (by simp)).trans (List.perm_append_singleton x L)
/-- In order: none is ahead of one before it. -/
def Srt (s : Int) (D : List ItD) : Prop := D.Pairwise fun x y => aheadB s y x = false
theorem idsNd_eq {L : List ItD} (h : idsNd L) {x y : ItD} (hx : x ∈ L) (hy : y ∈ L) (he : x.id = y.id) : x = y := by
  obtain ⟨i, hi, rfl⟩ := List.getElem_of_mem hx
  obtain ⟨j, hj, rfl⟩ := List.getElem_of_mem hy
  have e1 : L.getD i default = L[i] := getD_lt _ _ hi
  have e2 : L.getD j default = L[j] := getD_lt _ _ hj
  have hij := h i j hi hj (by rw [e1, e2]; exact he)
  subst hij
  rfl
theorem srt_unique {s : Int} {A B : List ItD} (h : ∀ x ∈ A, ∀ y ∈ A, x.id = y.id → x = y) (p : A.Perm B) (ha : Srt s A) (hb : Srt s B) : A = B :=
  List.Perm.eq_of_pairwise (fun a b ha hb h1 h2 => h a ha b (p.mem_iff.2 hb) (ahead_both h2 h1)) ha hb p
end Go.Proofs.Ytpjmmhpkiepbmaa
