/- The tree: an instance goes. -/
import Derived.Test.YtclkahggfdnpgaaTr10
set_option linter.unusedVariables false
set_option linter.unusedSimpArgs false
namespace Go.Proofs.Ytclkahggfdnpgaa
open Go.RowKit
theorem getD_eraseIdx (L : List InsD) (j m : Nat) (h : m + 1 < L.length) : (L.eraseIdx j)[m]? = some (if j ≤ m then L.getD (m + 1) default else L.getD m default) := by
  rw [List.getElem?_eraseIdx]
  by_cases hm : m < j
  · rw [if_pos hm, if_neg (by omega), getD_at L m (by omega)]
  · rw [if_neg hm, if_pos (by omega), getD_at L (m + 1) h]
theorem TreeAt.ptrs {w : World} {tb hi : Nat} {T : TreeD} (h : TreeAt w tb hi T) (h0 : 0 < T.L.length) : ∃ g c C, T.v = .slice (some ⟨g, 0, none⟩) T.L.length c ∧ hi ≤ g ∧ T.L.length ≤ c ∧ PtrsAt w g T.L.length (fun m => T.L.getD m default) C ∧
    ∀ (w' : World) (C' : List Value) (L' : List InsD), Row w' g C' 127 → C'.length = C.length → L'.length ≤ T.L.length → (∀ m, m < L'.length → C'[m]? = some (L'.getD m default).ptr) → w'.ownsRow hi 127 1 (.slice (some ⟨g, 0, none⟩) L'.length c) L'.length (L'.map InsD.ptr) := by
  rcases h.row.2 with ⟨_, h1⟩ | ⟨g, cap, cur, hv, hb, hg, hn, hcm, hcs, ht⟩
  · omega
  · have hrow : Row w g cur.toList 127 := by unfold Row; rw [hg]
    have hcl : T.L.length ≤ cur.size := by omega
    refine ⟨g, cap, cur.toList, hv, hb, hn, ⟨hrow, by simpa using hcl, fun m hm => ?_, fun m hm => h.ins _ (getD_memD T.L m hm), fun m hm he => ?_⟩, ?_⟩
    · have h2 : (cur.toList.take (T.L.length * 1))[m]? = (T.L.map InsD.ptr)[m]? := by rw [ht]
      rw [List.getElem?_take_of_lt (by omega), List.getElem?_map, getD_at T.L m hm] at h2
      exact h2
    · exact h.sep _ (getD_memD T.L m hm) (by rw [hv, he]; rfl)
    · intro w' C' L' hr hl hle hat
      refine ⟨by simp, .inr ⟨g, cap, C'.toArray, rfl, hb, hr, by omega, hcm, ?_, ?_⟩⟩
      · simp only [List.size_toArray]
        rw [hl]
        simpa using hcs
      · apply List.ext_getElem?
        intro m
        by_cases hm : m < L'.length
        · rw [List.getElem?_take_of_lt (by omega), List.getElem?_map, getD_at L' m hm]
          exact hat m hm
        · rw [List.getElem?_eq_none (by simp; omega), List.getElem?_eq_none (by simp; omega)]
theorem del_fin {w w8 : World} {tb hi : Nat} {T : TreeD} (h : TreeAt w tb hi T) {j g c : Nat} {C C' : List Value} (hj : j < T.L.length) (hv : T.v = .slice (some ⟨g, 0, none⟩) T.L.length c) (hg : hi ≤ g)
    (hr : Row w8 g C' 127) (hat : ∀ m, m < T.L.length - 1 → C'[m]? = some (shiftI (fun m => T.L.getD m default) j T.L.length m).ptr) (f : Fr [g] w w8)
    (hown : ∀ (w' : World) (C' : List Value) (L' : List InsD), Row w' g C' 127 → C'.length = C.length → L'.length ≤ T.L.length → (∀ m, m < L'.length → C'[m]? = some (L'.getD m default).ptr) → w'.ownsRow hi 127 1 (.slice (some ⟨g, 0, none⟩) L'.length c) L'.length (L'.map InsD.ptr)) (hl : C'.length = C.length) :
    NextT tb hi T { T with v := .slice (some ⟨g, 0, none⟩) (T.L.length - 1) c, L := T.L.eraseIdx j } w (w8.setCell ⟨tb, 2, none⟩ (.slice (some ⟨g, 0, none⟩) (T.L.length - 1) c)) := by
  have hle : (T.L.eraseIdx j).length = T.L.length - 1 := List.length_eraseIdx_of_lt hj
  have htbh := h.tbh
  have fS : Fr [tb] w8 (w8.setCell ⟨tb, 2, none⟩ (.slice (some ⟨g, 0, none⟩) (T.L.length - 1) c)) := (Fr.refl _ w8).setCell (.inl (by simp)) _
  have f9 : Fr [tb, g] w (w8.setCell ⟨tb, 2, none⟩ (.slice (some ⟨g, 0, none⟩) (T.L.length - 1) c)) := (f.mono (fun y hy => .inl (by simp at hy; simp [hy]))).trans fS (fun y hy => .inl (by simp at hy; simp [hy]))
  have hvo : T.v.ownBlock = some g := by rw [hv]; rfl
  have fB : Fr (T.blocks tb) w (w8.setCell ⟨tb, 2, none⟩ (.slice (some ⟨g, 0, none⟩) (T.L.length - 1) c)) := f9.mono (fun y hy => .inl (by
    unfold TreeD.blocks
    rw [hvo]
    simp at hy ⊢
    rcases hy with rfl | rfl
    · exact .inl rfl
    · exact .inr (.inl rfl)))
  have hsub : ∀ y ∈ T.L.eraseIdx j, y ∈ T.L := fun y hy => (List.eraseIdx_sublist T.L j).subset hy
  refine ⟨⟨?_, h.tmT fB, h.mpT fB, h.cmt, h.tbh, ?_, ?_, ?_, ?_, ?_, ?_, ?_, ?_⟩, fB, ?_⟩
  · exact ((h.head.fr f (by simp; omega)).setCell 2 _)
  · show World.ownsRow _ hi 127 1 (.slice (some ⟨g, 0, none⟩) (T.L.length - 1) c) (T.L.eraseIdx j).length ((T.L.eraseIdx j).map InsD.ptr)
    have := hown (w8.setCell ⟨tb, 2, none⟩ (.slice (some ⟨g, 0, none⟩) (T.L.length - 1) c)) C' (T.L.eraseIdx j) (hr.setCell_other _ _ (by show g ≠ tb; omega)) hl (by omega) (fun m hm => by
      rw [hat m (by omega)]
      congr 2
      rw [List.getD_eq_getElem?_getD, getD_eraseIdx T.L j m (by omega)]
      unfold shiftI
      by_cases hjm : j ≤ m
      · rw [if_pos (by omega), if_pos hjm]; rfl
      · rw [if_neg (by omega), if_neg hjm]; rfl)
    rw [hle] at this ⊢
    exact this
  · intro y hy
    have hyL := hsub y hy
    refine (h.ins y hyL).fr f9 (fun hb => ?_)
    have hlow := h.low y hyL
    simp at hb
    rcases hb with hb | hb
    · omega
    · exact h.sep y hyL (by rw [hvo, hb])
  · intro y hy
    exact h.mkT fB (hsub y hy)
  · intro y hy h0 g' o hg' hv'
    exact h.apart y (hsub y hy) h0 g' o hg' (by rw [hvo]; exact hv')
  · intro y hy
    exact h.low y (hsub y hy)
  · show ((T.L.eraseIdx j).map (·.b)).Nodup
    exact (((List.eraseIdx_sublist T.L j).map (·.b))).nodup h.nd
  · intro y hy hv'
    exact h.sep y (hsub y hy) (by rw [hvo]; exact hv')
  · show (T.L.eraseIdx j).length ≤ 40
    have := h.few
    omega
  · intro y hy
    refine .inl ?_
    unfold TreeD.blocks at hy ⊢
    rw [hvo]
    simp only [List.mem_cons, List.mem_append, Option.mem_toList] at hy ⊢
    rcases hy with rfl | hy | hy
    · exact .inl rfl
    · exact .inr (.inl hy)
    · obtain ⟨z, hz, rfl⟩ := List.mem_map.1 hy
      exact .inr (.inr (List.mem_map.2 ⟨z, hsub z hz, rfl⟩))
/-- What End answers, and the tree behind it. -/
inductive EndR (T : TreeD) (id : Int) : Int → TreeD → Prop where
  | none : (∀ x ∈ T.L, x.id ≠ id) → EndR T id 10 T
  | root {x : InsD} : x ∈ T.L → x.id = id → id = 0 → EndR T id 1 T
  | hold {x : InsD} : x ∈ T.L → x.id = id → id ≠ 0 → 0 < (T.L.filter (isKid id (-1))).length → EndR T id 17 T
  | off {x : InsD} : x ∈ T.L → x.id = id → id ≠ 0 → (T.L.filter (isKid id (-1))).length = 0 → accB (T.Fs.getD x.tp default).en x.m = false → EndR T id 11 T
  | err {x y : InsD} {E : Int} : x ∈ T.L → x.id = id → id ≠ 0 → (T.L.filter (isKid id (-1))).length = 0 → accB (T.Fs.getD x.tp default).en x.m = true → y ∈ T.L → y.id = x.par → doE (T.Fs.getD y.tp default) y.m x.ev = E → E ≠ 0 → EndR T id E T
  | done {j q : Nat} (a : Option Addr) (c : Nat) (v : Value) : j < T.L.length → (T.L.getD j default).id = id → id ≠ 0 → (T.L.filter (isKid id (-1))).length = 0 → accB (T.Fs.getD (T.L.getD j default).tp default).en (T.L.getD j default).m = true →
      q < T.L.length → (T.L.getD q default).id = (T.L.getD j default).par → doE (T.Fs.getD (T.L.getD q default).tp default) (T.L.getD q default).m (T.L.getD j default).ev = 0 →
      EndR T id 0 { setMk T q a c (doM (T.Fs.getD (T.L.getD q default).tp default) (T.L.getD q default).m (T.L.getD j default).ev.toNat) with v := v, L := (setMk T q a c (doM (T.Fs.getD (T.L.getD q default).tp default) (T.L.getD q default).m (T.L.getD j default).ev.toNat)).L.eraseIdx j }
def EndP (tb hi : Nat) (T : TreeD) (id : Int) (w : World) (e : Ending) (w' : World) : Prop := ∃ E T', e = .returned (.int .i64 E) ∧ EndR T id E T' ∧ NextT tb hi T T' w w'
end Go.Proofs.Ytclkahggfdnpgaa
