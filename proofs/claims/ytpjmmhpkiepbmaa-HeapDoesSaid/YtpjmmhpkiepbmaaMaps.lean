/- A map from whole numbers, as a plain function. -/
import Derived.Test.YtpjmmhpkiepbmaaMem
import Derived.Maps.OwnSet
import Derived.Maps.Views
import Derived.Maps.Keyed
set_option linter.unusedVariables false
set_option linter.unusedSimpArgs false
namespace Go.Proofs.Ytpjmmhpkiepbmaa
open Go.Maps
/-- How the map's elements stand for plain ones. -/
structure ElemOf (P : Program) (e : TypeId) (α : Type) where
  val : α → Value
  lit : α → Lit
  good : α → Prop
  zero : α
  reads : ∀ v, good v → plainElem (H := Unit) P e (val v) = some (.lit (lit v), [])
  back : ∀ u v ps, plainElem (H := Unit) P e u = some (.lit (lit v), ps) → u = val v
  gz : good zero
  hz : ∀ w, (zeroValue e).run P w = .ok (val zero) w
def kI (k : Int) : Lit := .int .i64 k
def inI (k : Int) : Prop := -9223372036854775808 ≤ k ∧ k ≤ 9223372036854775807
theorem inI_wf {k : Int} (h : inI k) : (Lit.int .i64 k).wf = true := by
  simp only [Lit.wf, IntKind.min, IntKind.max, IntKind.bits, IntKind.signed]
  unfold inI at h
  simp
  omega
theorem kI_ne {a b : Int} (h : a ≠ b) : kI a ≠ kI b := by
  intro h'
  unfold kI at h'
  injection h' with _ h''
  exact h h''
def intElem (P : Program) (e : TypeId) (he : P.underlying e = some (.int .i64)) (hz : ∀ w, (zeroValue e).run P w = .ok (.int .i64 0) w) : ElemOf P e Int where
  val v := .int .i64 v
  lit v := kI v
  good := inI
  zero := 0
  reads v h := plainElem_int he (inI_wf h)
  back u v ps h := by
    obtain ⟨c, rfl, hc, _⟩ := plainElem_int_inv he h
    unfold kI at hc
    simp at hc
    rw [hc.1]
  gz := by unfold inI; omega
  hz := hz
def boolElem (P : Program) (e : TypeId) (he : P.underlying e = some .bool) (hz : ∀ w, (zeroValue e).run P w = .ok (.bool false) w) : ElemOf P e Bool where
  val v := .bool v
  lit v := .bool v
  good _ := True
  zero := false
  reads v _ := plainElem_bool he v
  back u v ps h := by
    unfold plainElem at h
    rw [he] at h
    cases u <;> simp at h
    rw [h.1]
  gz := trivial
  hz := hz
section
variable {P : Program} {k e t : TypeId} {α : Type}
/-- Block b of w is a map of at most n entries: m. -/
structure MapF (P : Program) (k e : TypeId) {α : Type} (E : ElemOf P e α) (w : World) (b n : Nat) (m : Int → Option α) : Prop where
  good : ∀ x v, m x = some v → E.good v
  owns : ∃ D : DataW Unit, w.ownsMap P k (plainElem P e) b n D ∧ ∀ x, inI x → Maps.has D (kI x) = (m x).isSome ∧ D.atKey (kI x) (.lit (E.lit E.zero)) = DataW.lit (E.lit ((m x).getD E.zero))
variable {E : ElemOf P e α} {w : World} {b n : Nat} {m : Int → Option α}
theorem MapF.lt (h : MapF P k e E w b n m) : b < w.heap.size := by
  obtain ⟨D, hD, _⟩ := h.owns
  exact hD.lt
theorem MapF.fr {w' : World} {S : List Nat} (h : MapF P k e E w b n m) (f : Fr S w w') (hb : b ∉ S) : MapF P k e E w' b n m := by
  obtain ⟨D, ⟨es, clock, h1, h2⟩, h3⟩ := h.owns
  have hlt : b < w.heap.size := (Array.getElem?_eq_some_iff.1 h1).1
  exact ⟨h.good, D, ⟨es, clock, by rw [f.block b hlt hb]; exact h1, h2⟩, h3⟩
theorem MapF.mono {n' : Nat} (h : MapF P k e E w b n m) (hn : n ≤ n') : MapF P k e E w b n' m := by
  obtain ⟨D, hD, h3⟩ := h.owns
  exact ⟨h.good, D, hD.mono hn, h3⟩
theorem MapF.made (P : Program) (k e : TypeId) (E : ElemOf P e α) (w : World) : MapF P k e E (w.alloc (.map #[] 0)) w.heap.size 0 (fun _ => none) :=
  ⟨fun x v h => by simp at h, _, World.ownsMap_made w P k _, fun x hx => ⟨rfl, rfl⟩⟩
theorem key_of (hk : P.underlying k = some (.int .i64)) {x : Int} (hx : inI x) : keyOf P k (.int .i64 x) = some (kI x) := by
  unfold keyOf
  rw [hk]
  simp [mapKey, hk, inI_wf hx, kI]
theorem kI_key (x : Int) : WideAt.IsKeyLit (kI x) := by unfold kI; trivial
theorem MapF.look (h : MapF P k e E w b n m) (hk : P.underlying k = some (.int .i64)) (ht : P.underlying t = some (.map k e)) {x : Int} (hx : inI x) :
    (Instr.lookup t (.map (some b)) (.int .i64 x) true).run P w = .ok (.tuple #[E.val ((m x).getD E.zero), .bool (m x).isSome]) w := by
  obtain ⟨D, hD, h3⟩ := h.owns
  obtain ⟨v, ps, hrun, hv⟩ := hD.look_ok (int_keyed hk) ht (E.hz w) (E.reads _ E.gz) (key_of hk hx)
  rw [(h3 x hx).2] at hv
  rw [hrun, (h3 x hx).1, E.back _ _ _ hv]
theorem MapF.look1 (h : MapF P k e E w b n m) (hk : P.underlying k = some (.int .i64)) (ht : P.underlying t = some (.map k e)) {x : Int} (hx : inI x) :
    (Instr.lookup t (.map (some b)) (.int .i64 x) false).run P w = .ok (E.val ((m x).getD E.zero)) w := by
  obtain ⟨D, hD, h3⟩ := h.owns
  obtain ⟨v, ps, hrun, hv⟩ := hD.lookup (int_keyed hk) ht (E.hz w) (E.reads _ E.gz) (key_of hk hx)
  rw [(h3 x hx).2] at hv
  rw [hrun, E.back _ _ _ hv]
theorem MapF.store (h : MapF P k e E w b n m) (hk : P.underlying k = some (.int .i64)) (ht : P.underlying t = some (.map k e)) (hn : n < maxLen) {x : Int} (hx : inI x) {v : α} (hv : E.good v) :
    ∃ w', (Instr.mapUpdate t (.map (some b)) (.int .i64 x) (E.val v)).run P w = .ok () w' ∧ MapF P k e E w' b (n + 1) (fun y => if y = x then some v else m y) ∧ Fr [b] w w' := by
  obtain ⟨D, hD, h3⟩ := h.owns
  obtain ⟨w', hrun, hD', hg⟩ := hD.update (int_keyed hk) ht hn (key_of hk hx) (E.reads v hv)
  refine ⟨w', hrun, ⟨fun y u hu => ?_, _, hD', fun y hy => ?_⟩, Fr.of_grown hg [b] (fun j hj => .inl (by simp at hj; simp [hj]))⟩
  · by_cases hyx : y = x
    · rw [if_pos hyx] at hu
      cases hu
      exact hv
    · rw [if_neg hyx] at hu
      exact h.good y u hu
  · by_cases hyx : y = x
    · subst hyx
      rw [if_pos rfl]
      exact ⟨Maps.has_put_same hD.isMap (kI_key y) _, Maps.atKey_put_same hD.isMap (kI_key y) _ _⟩
    · rw [if_neg hyx]
      exact ⟨(Maps.has_put_other (kI_ne hyx) _).trans (h3 y hy).1, (Maps.atKey_put_other (kI_ne hyx) _ _).trans (h3 y hy).2⟩
theorem MapF.drop (h : MapF P k e E w b n m) (hk : P.underlying k = some (.int .i64)) (ht : P.underlying t = some (.map k e)) {x : Int} (hx : inI x) (ty : TypeId) :
    ∃ w', (Builtin.delete_ #[t, k] ty #[.map (some b), .int .i64 x]).run P w = .ok (.tuple #[]) w' ∧ MapF P k e E w' b n (fun y => if y = x then none else m y) ∧ Fr [b] w w' := by
  obtain ⟨D, hD, h3⟩ := h.owns
  obtain ⟨w', hrun, hD', hg⟩ := hD.drop (int_keyed hk) ht (key_of hk hx) ty
  refine ⟨w', hrun, ⟨fun y u hu => ?_, _, hD', fun y hy => ?_⟩, Fr.of_grown hg.grown [b] (fun j hj => .inl (by simp at hj; simp [hj]))⟩
  · by_cases hyx : y = x
    · rw [if_pos hyx] at hu
      cases hu
    · rw [if_neg hyx] at hu
      exact h.good y u hu
  · by_cases hyx : y = x
    · subst hyx
      rw [if_pos rfl]
      exact ⟨Maps.has_del_same, Maps.atKey_del_same _⟩
    · rw [if_neg hyx]
      exact ⟨(Maps.has_del_other (kI_ne hyx)).trans (h3 y hy).1, (Maps.atKey_del_other (kI_ne hyx) _).trans (h3 y hy).2⟩
end
end Go.Proofs.Ytpjmmhpkiepbmaa
