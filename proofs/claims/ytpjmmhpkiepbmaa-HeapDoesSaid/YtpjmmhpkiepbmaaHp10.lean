/- What rising and falling keep; an item taken out, on plain lists. -/
import Derived.Test.YtpjmmhpkiepbmaaHp9
set_option linter.unusedVariables false
set_option linter.unusedSimpArgs false
namespace Go.Proofs.Ytpjmmhpkiepbmaa
open Go.RowKit
theorem upL_inv (s : Int) (P : List ItD → Prop) (hsw : ∀ L i k, P L → i < L.length → k < L.length → P (swapL L i k)) : ∀ (i : Nat) (L : List ItD), i < L.length → P L → P (upL s L i) ∧ (upL s L i).length = L.length := by
  intro i
  induction i using Nat.strongRecOn with
  | _ i ih =>
    intro L hi hP
    rw [upL]
    split
    · rename_i h
      have hk : (i - 1) / 2 < L.length := by omega
      have h1 := ih ((i - 1) / 2) (by omega) (swapL L i ((i - 1) / 2)) (by rw [swapL_length]; exact hk) (hsw L i _ hP hi hk)
      exact ⟨h1.1, h1.2.trans (swapL_length _ _ _)⟩
    · exact ⟨hP, rfl⟩
theorem downL_inv (s : Int) (P : List ItD → Prop) (hsw : ∀ L i k, P L → i < L.length → k < L.length → P (swapL L i k)) : ∀ (d i : Nat) (L : List ItD), L.length - i = d → i < L.length → P L → P (downL s L i) ∧ (downL s L i).length = L.length := by
  intro d
  induction d using Nat.strongRecOn with
  | _ d ih =>
    intro i L hd hi hP
    rw [downL]
    split
    · rename_i h
      have hb := bestTo_lt s L i hi 2
      have hg := bestTo_ge s L i 2
      have h1 := ih (L.length - bestTo s L i 2) (by omega) (bestTo s L i 2) (swapL L i (bestTo s L i 2)) (by rw [swapL_length]) (by rw [swapL_length]; exact hb) (hsw L i _ hP hi hb)
      exact ⟨h1.1, h1.2.trans (swapL_length _ _ _)⟩
    · exact ⟨hP, rfl⟩
theorem upL_good {s : Int} {L : List ItD} {i : Nat} (h : Good s L) (hi : i < L.length) : Good s (upL s L i) ∧ (upL s L i).length = L.length := upL_inv s (Good s) (fun L i k hg hi hk => hg.swap hi hk) i L hi h
theorem downL_good {s : Int} {L : List ItD} {i : Nat} (h : Good s L) (hi : i < L.length) : Good s (downL s L i) ∧ (downL s L i).length = L.length := downL_inv s (Good s) (fun L i k hg hi hk => hg.swap hi hk) _ i L rfl hi h
/-- The items left when item i has changed places with the last one and is cut off. -/
def cutL (L : List ItD) (i : Nat) : List ItD := (swapL L i (L.length - 1)).take (L.length - 1)
theorem cutL_length (L : List ItD) (i : Nat) : (cutL L i).length = L.length - 1 := by
  unfold cutL
  rw [List.length_take, swapL_length]
  omega
theorem cutL_get (L : List ItD) (i j : Nat) (hi : i < L.length) (hj : j < L.length - 1) : (cutL L i).getD j default = if j = i then L.getD (L.length - 1) default else L.getD j default := by
  unfold cutL
  rw [List.getD_eq_getElem?_getD, List.getElem?_take, if_pos hj, ← List.getD_eq_getElem?_getD, swapL_get L i (L.length - 1) hi (by omega) j, if_neg (by omega)]
theorem cutL_mem {L : List ItD} {i : Nat} (hi : i < L.length) {x : ItD} (hx : x ∈ cutL L i) : x ∈ L := swapL_mem hi (by omega) (List.mem_of_mem_take hx)
theorem cutL_good {s : Int} {L : List ItD} {i : Nat} (h : Good s L) (hi : i < L.length) : Good s (cutL L i) := by
  refine ⟨h.step, fun x hx => h.ok x (cutL_mem hi hx), fun x hx => h.ids x (cutL_mem hi hx), fun a b ha hb hab => ?_, by rw [cutL_length]; have := h.few; omega⟩
  rw [cutL_length] at ha hb
  have h1 := swapL_nd hi (show L.length - 1 < L.length by omega) h.nd
  refine h1 a b (by rw [swapL_length]; omega) (by rw [swapL_length]; omega) ?_
  have e : ∀ j, j < L.length - 1 → (cutL L i).getD j default = (swapL L i (L.length - 1)).getD j default := by
    intro j hj
    unfold cutL
    rw [List.getD_eq_getElem?_getD, List.getElem?_take, if_pos hj, ← List.getD_eq_getElem?_getD]
  rw [← e a ha, ← e b hb]
  exact hab
theorem posM_cut {L : List ItD} {i : Nat} (hi : i < L.length) (hnd : idsNd L) : (fun y => if y = (L.getD i default).id then none else posM (swapL L i (L.length - 1)) y) = posM (cutL L i) := by
  have hl1 : L.length - 1 < L.length := by omega
  have hnd' := swapL_nd hi hl1 hnd
  have hlast : (swapL L i (L.length - 1)).getD (L.length - 1) default = L.getD i default := by rw [swapL_get L i _ hi hl1, if_pos rfl]
  have e : ∀ j, j < L.length - 1 → (cutL L i).getD j default = (swapL L i (L.length - 1)).getD j default := by
    intro j hj
    unfold cutL
    rw [List.getD_eq_getElem?_getD, List.getElem?_take, if_pos hj, ← List.getD_eq_getElem?_getD]
  have hndc : idsNd (cutL L i) := by
    intro a b ha hb hab
    rw [cutL_length] at ha hb
    rw [e a ha, e b hb] at hab
    exact hnd' a b (by rw [swapL_length]; omega) (by rw [swapL_length]; omega) hab
  funext y
  by_cases hy : y = (L.getD i default).id
  · rw [if_pos hy]
    refine (posM_none fun j hj hj2 => ?_).symm
    rw [cutL_length] at hj
    rw [e j hj, hy, ← hlast] at hj2
    have := hnd' j (L.length - 1) (by rw [swapL_length]; omega) (by rw [swapL_length]; omega) hj2
    omega
  · rw [if_neg hy]
    cases hp : posM (swapL L i (L.length - 1)) y with
    | none =>
      refine (posM_none fun j hj hj2 => ?_).symm
      rw [cutL_length] at hj
      rw [e j hj] at hj2
      rw [posM_some hnd' (by rw [swapL_length]; omega) hj2] at hp
      cases hp
    | some q =>
      obtain ⟨j, rfl, hj, hjy⟩ := posM_find hp
      rw [swapL_length] at hj
      have hjl : j ≠ L.length - 1 := fun h => hy (by rw [← hjy, h, hlast])
      refine (posM_some hndc (by rw [cutL_length]; omega) ?_).symm
      rw [e j (by omega)]
      exact hjy
theorem icells_append (A B : List ItD) : icells (A ++ B) = icells A ++ icells B := by
  induction A with
  | nil => rfl
  | cons x A ih => simp [icells, ih]
theorem cutL_cells {L : List ItD} {i : Nat} (hi : i < L.length) (C : List Value) : icells (swapL L i (L.length - 1)) ++ C = icells (cutL L i) ++ ((L.getD i default).cells ++ C) := by
  have hl1 : L.length - 1 < (swapL L i (L.length - 1)).length := by rw [swapL_length]; omega
  have h1 : swapL L i (L.length - 1) = cutL L i ++ [L.getD i default] := by
    have ht : (swapL L i (L.length - 1)).take (L.length - 1 + 1) = swapL L i (L.length - 1) := List.take_of_length_le (by rw [swapL_length]; omega)
    rw [← ht, List.take_add_one, getD_at _ _ hl1, swapL_get L i _ hi (by omega), if_pos rfl]
    rfl
  rw [h1, icells_snoc, List.append_assoc]
/-- What is left of a heap when item i is taken. -/
def remL (s : Int) (L : List ItD) (i : Nat) : List ItD := if i < L.length - 1 then downL s (upL s (cutL L i) i) i else cutL L i
end Go.Proofs.Ytpjmmhpkiepbmaa
