/- A map from whole numbers as a plain function, with how many entries it has. -/
import Derived.Test.YtpjmmhpkiepbmaaMaps
set_option linter.unusedVariables false
set_option linter.unusedSimpArgs false
namespace Go.Proofs.Ytpjmmhpkiepbmaa
open Go.Maps
section
variable {P : Program} {k e t : TypeId} {α : Type}
/-- Block b of w is a map of c entries, at most n stores old: m. -/
structure MapC (P : Program) (k e : TypeId) {α : Type} (E : ElemOf P e α) (w : World) (b n c : Nat) (m : Int → Option α) : Prop where
  good : ∀ x v, m x = some v → E.good v
  owns : ∃ D : DataW Unit, w.ownsMap P k (plainElem P e) b n D ∧ Maps.size D = c ∧ ∀ x, inI x → Maps.has D (kI x) = (m x).isSome ∧ D.atKey (kI x) (.lit (E.lit E.zero)) = DataW.lit (E.lit ((m x).getD E.zero))
variable {E : ElemOf P e α} {w : World} {b n c : Nat} {m : Int → Option α}
theorem MapC.f (h : MapC P k e E w b n c m) : MapF P k e E w b n m := by
  obtain ⟨D, hD, _, h3⟩ := h.owns
  exact ⟨h.good, D, hD, h3⟩
theorem MapC.lt (h : MapC P k e E w b n c m) : b < w.heap.size := h.f.lt
theorem MapC.fr {w' : World} {S : List Nat} (h : MapC P k e E w b n c m) (f : Fr S w w') (hb : b ∉ S) : MapC P k e E w' b n c m := by
  obtain ⟨D, ⟨es, clock, h1, h2⟩, h3⟩ := h.owns
  have hlt : b < w.heap.size := (Array.getElem?_eq_some_iff.1 h1).1
  exact ⟨h.good, D, ⟨es, clock, by rw [f.block b hlt hb]; exact h1, h2⟩, h3⟩
theorem MapC.mono {n' : Nat} (h : MapC P k e E w b n c m) (hn : n ≤ n') : MapC P k e E w b n' c m := by
  obtain ⟨D, hD, h3⟩ := h.owns
  exact ⟨h.good, D, hD.mono hn, h3⟩
theorem MapC.made (P : Program) (k e : TypeId) (E : ElemOf P e α) (w : World) : MapC P k e E (w.alloc (.map #[] 0)) w.heap.size 0 0 (fun _ => none) :=
  ⟨fun x v h => by simp at h, _, World.ownsMap_made w P k _, rfl, fun x hx => ⟨rfl, rfl⟩⟩
theorem MapC.len (h : MapC P k e E w b n c m) (ht : P.underlying t = some (.map k e)) (ty : TypeId) : (Builtin.len_ #[t] ty #[.map (some b)]).run P w = .ok (.int .i64 c) w := by
  obtain ⟨D, hD, rfl, _⟩ := h.owns
  exact hD.len ht ty
theorem MapC.store (h : MapC P k e E w b n c m) (hk : P.underlying k = some (.int .i64)) (ht : P.underlying t = some (.map k e)) (hn : n < maxLen) {x : Int} (hx : inI x) {v : α} (hv : E.good v) :
    ∃ w', (Instr.mapUpdate t (.map (some b)) (.int .i64 x) (E.val v)).run P w = .ok () w' ∧ MapC P k e E w' b (n + 1) (if (m x).isSome then c else c + 1) (fun y => if y = x then some v else m y) ∧ Fr [b] w w' := by
  obtain ⟨D, hD, h2, h3⟩ := h.owns
  obtain ⟨w', hrun, hD', hg⟩ := hD.update (int_keyed hk) ht hn (key_of hk hx) (E.reads v hv)
  refine ⟨w', hrun, ⟨fun y u hu => ?_, _, hD', ?_, fun y hy => ?_⟩, Fr.of_grown hg [b] (fun j hj => .inl (by simp at hj; simp [hj]))⟩
  · by_cases hyx : y = x
    · rw [if_pos hyx] at hu
      cases hu
      exact hv
    · rw [if_neg hyx] at hu
      exact h.good y u hu
  · rw [Maps.size_put (hD.tidy (int_keyed hk)), (h3 x hx).1, h2]
  · by_cases hyx : y = x
    · subst hyx
      rw [if_pos rfl]
      exact ⟨Maps.has_put_same hD.isMap (kI_key y) _, Maps.atKey_put_same hD.isMap (kI_key y) _ _⟩
    · rw [if_neg hyx]
      exact ⟨(Maps.has_put_other (kI_ne hyx) _).trans (h3 y hy).1, (Maps.atKey_put_other (kI_ne hyx) _ _).trans (h3 y hy).2⟩
theorem MapC.drop (h : MapC P k e E w b n c m) (hk : P.underlying k = some (.int .i64)) (ht : P.underlying t = some (.map k e)) {x : Int} (hx : inI x) (ty : TypeId) :
    ∃ w', (Builtin.delete_ #[t, k] ty #[.map (some b), .int .i64 x]).run P w = .ok (.tuple #[]) w' ∧ MapC P k e E w' b n (c - (if (m x).isSome then 1 else 0)) (fun y => if y = x then none else m y) ∧ Fr [b] w w' := by
  obtain ⟨D, hD, h2, h3⟩ := h.owns
  obtain ⟨w', hrun, hD', hg⟩ := hD.drop (int_keyed hk) ht (key_of hk hx) ty
  refine ⟨w', hrun, ⟨fun y u hu => ?_, _, hD', ?_, fun y hy => ?_⟩, Fr.of_grown hg.grown [b] (fun j hj => .inl (by simp at hj; simp [hj]))⟩
  · by_cases hyx : y = x
    · rw [if_pos hyx] at hu
      cases hu
    · rw [if_neg hyx] at hu
      exact h.good y u hu
  · have h4 := Maps.size_del (k := kI x) (hD.tidy (int_keyed hk))
    rw [(h3 x hx).1, h2] at h4
    omega
  · by_cases hyx : y = x
    · subst hyx
      rw [if_pos rfl]
      exact ⟨Maps.has_del_same, Maps.atKey_del_same _⟩
    · rw [if_neg hyx]
      exact ⟨(Maps.has_del_other (kI_ne hyx)).trans (h3 y hy).1, (Maps.atKey_del_other (kI_ne hyx) _).trans (h3 y hy).2⟩
end
end Go.Proofs.Ytpjmmhpkiepbmaa
