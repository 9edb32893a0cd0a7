/- A heap in order: one contract a method. -/
import Derived.Test.YtpjmmhpkiepbmaaHp12
import Derived.Test.YtpjmmhpkiepbmaaHpO
set_option linter.unusedVariables false
set_option linter.unusedSimpArgs false
namespace Go.Proofs.Ytpjmmhpkiepbmaa
open Go.RowKit
instance (x : ItD) : Decidable x.ok := inferInstanceAs (Decidable (0 ≤ x.base ∧ x.base ≤ 9 ∧ 0 ≤ x.since ∧ x.since ≤ 1099511627776))
def hasI (L : List ItD) (id : Int) : Bool := (posM L id).isSome
def atI (L : List ItD) (id : Int) : Nat := ((posM L id).getD 0).toNat
def remX (L : List ItD) (id : Int) : ItD := if hasI L id = true then L.getD (atI L id) default else default
def rmL (s : Int) (L : List ItD) (id : Int) : List ItD := if hasI L id = true then remL s L (atI L id) else L
def putE (L : List ItD) (x : ItD) : Int := if x.ok then (if hasI L x.id = true then 6 else if L.length = 1000 then 4 else 0) else 3
def putL (s : Int) (L : List ItD) (x : ItD) : List ItD := if putE L x = 0 then upL s (L ++ [x]) L.length else L
def topX (L : List ItD) : ItD := L.getD 0 default
def nonB (L : List ItD) : Bool := decide (0 < L.length)
def popL (s : Int) (L : List ItD) : List ItD := if 0 < L.length then remL s L 0 else L
theorem hasI_true {L : List ItD} {id : Int} : hasI L id = true ↔ ∃ x ∈ L, x.id = id := by
  unfold hasI
  constructor
  · intro h
    obtain ⟨q, hq⟩ := Option.isSome_iff_exists.1 h
    obtain ⟨j, rfl, hj, hx⟩ := posM_find hq
    exact ⟨_, getD_mem L j hj, hx⟩
  · rintro ⟨x, hx, hid⟩
    obtain ⟨j, hj, rfl⟩ := List.getElem_of_mem hx
    cases hp : posM L id with
    | some q => rfl
    | none =>
      exfalso
      unfold posM at hp
      rw [Option.map_eq_none_iff, List.findIdx?_eq_none_iff] at hp
      have := hp _ hx
      simp [hid] at this
theorem hasI_false {L : List ItD} {id : Int} : hasI L id = false ↔ ∀ x ∈ L, x.id ≠ id := by
  constructor
  · intro h x hx hid
    have : hasI L id = true := hasI_true.2 ⟨x, hx, hid⟩
    rw [h] at this; cases this
  · intro h
    cases hh : hasI L id with
    | false => rfl
    | true =>
      obtain ⟨x, hx, hid⟩ := hasI_true.1 hh
      exact absurd hid (h x hx)
theorem atI_spec {L : List ItD} {id : Int} (h : hasI L id = true) : atI L id < L.length ∧ (L.getD (atI L id) default).id = id := by
  obtain ⟨q, hq⟩ := Option.isSome_iff_exists.1 (show (posM L id).isSome = true from h)
  obtain ⟨j, rfl, hj, hx⟩ := posM_find hq
  unfold atI
  rw [hq]
  exact ⟨hj, hx⟩
theorem remL_good {s : Int} {L : List ItD} {i : Nat} (h : Good s L) (hi : i < L.length) : Good s (remL s L i) := by
  unfold remL
  split
  · rename_i hil
    have hc : i < (cutL L i).length := by rw [cutL_length]; exact hil
    have h1 := upL_good (cutL_good h hi) hc
    exact (downL_good h1.1 (by rw [h1.2]; exact hc)).1
  · exact cutL_good h hi
theorem putE_zero {L : List ItD} {x : ItD} : putE L x = 0 ↔ x.ok ∧ hasI L x.id = false ∧ L.length ≠ 1000 := by
  unfold putE
  by_cases h1 : x.ok
  · rw [if_pos h1]
    cases h2 : hasI L x.id with
    | true => simp
    | false =>
      by_cases h3 : L.length = 1000
      · simp [h3]
      · simp [h3, h1]
  · rw [if_neg h1]; simp [h1]
theorem putL_good {s : Int} {L : List ItD} {x : ItD} (h : Good s L) (hid : inI x.id) : Good s (putL s L x) := by
  unfold putL
  split
  · rename_i hp
    obtain ⟨h1, h2, h3⟩ := putE_zero.1 hp
    have h4 : posM L x.id = none := by
      cases hq : posM L x.id with
      | none => rfl
      | some q => unfold hasI at h2; rw [hq] at h2; cases h2
    have hf := h.few
    exact (upL_good (h.snoc h1 hid h4 (by omega)) (by simp)).1
  · exact h
theorem putL_ord {s : Int} {L : List ItD} {x : ItD} (h : HeapO s L) : HeapO s (putL s L x) := by
  unfold putL
  split
  · exact put_heap x h
  · exact h
theorem putL_perm {s : Int} {L : List ItD} {x : ItD} (h : putE L x = 0) : (putL s L x).Perm (x :: L) := by
  unfold putL
  rw [if_pos h]
  exact put_perm x
theorem putL_same {s : Int} {L : List ItD} {x : ItD} (h : putE L x ≠ 0) : putL s L x = L := by
  unfold putL
  rw [if_neg h]
theorem popL_good {s : Int} {L : List ItD} (h : Good s L) : Good s (popL s L) := by
  unfold popL
  split
  · rename_i hl; exact remL_good h hl
  · exact h
theorem popL_ord {s : Int} {L : List ItD} (h : HeapO s L) : HeapO s (popL s L) := by
  unfold popL
  split
  · rename_i hl; exact remL_heap h hl
  · exact h
theorem popL_perm {s : Int} {L : List ItD} (h : 0 < L.length) : (topX L :: popL s L).Perm L := by
  unfold popL topX
  rw [if_pos h]
  exact remL_perm h
theorem rmL_good {s : Int} {L : List ItD} {id : Int} (h : Good s L) : Good s (rmL s L id) := by
  unfold rmL
  split
  · rename_i hl; exact remL_good h (atI_spec hl).1
  · exact h
theorem rmL_ord {s : Int} {L : List ItD} {id : Int} (h : HeapO s L) : HeapO s (rmL s L id) := by
  unfold rmL
  split
  · rename_i hl; exact remL_heap h (atI_spec hl).1
  · exact h
theorem rmL_perm {s : Int} {L : List ItD} {id : Int} (h : hasI L id = true) : (remX L id :: rmL s L id).Perm L := by
  unfold rmL remX
  rw [if_pos h, if_pos h]
  exact remL_perm (atI_spec h).1
theorem rmL_same {s : Int} {L : List ItD} {id : Int} (h : hasI L id = false) : rmL s L id = L := by
  unfold rmL
  rw [if_neg (by rw [h]; simp)]
/-- A heap that is in order, at block b. -/
structure HS (E : ElemOf Try.prog 3 Int) (w : World) (b m base n : Nat) (s : Int) (L : List ItD) (v : Value) : Prop where
  at_ : HpAt E w b m base n s L v
  good : Good s L
  ord : HeapO s L
  low : base ≤ w.heap.size
theorem HS.fr {E : ElemOf Try.prog 3 Int} {w w' : World} {b m base n : Nat} {s : Int} {L : List ItD} {v : Value} (h : HS E w b m base n s L v) (f : Fr [] w w') : HS E w' b m base n s L v :=
  ⟨h.at_.fr f, h.good, h.ord, Nat.le_trans h.low f.size⟩
theorem HS.frS {E : ElemOf Try.prog 3 Int} {w w' : World} {b m base n : Nat} {s : Int} {L : List ItD} {v : Value} {S : List Nat} (h : HS E w b m base n s L v) (f : Fr S w w') (hb : b ∉ S) (hm : m ∉ S) (hv : ∀ y, v.ownBlock = some y → y ∉ S) : HS E w' b m base n s L v :=
  ⟨h.at_.frS f hb hm hv, h.good, h.ord, Nat.le_trans h.low f.size⟩
/-- The heap behind a change. -/
def HSN (E : ElemOf Try.prog 3 Int) (b m base n : Nat) (s : Int) (L : List ItD) (v : Value) (w w' : World) : Prop :=
  ∃ n' v', n' ≤ n ∧ HS E w' b m base n' s L v' ∧ Fr (b :: m :: v.ownBlock.toList) w w' ∧ (v'.ownBlock = v.ownBlock ∨ ∃ k, v'.ownBlock = some k ∧ w.heap.size ≤ k)
theorem HSN.of {E : ElemOf Try.prog 3 Int} {b m base n : Nat} {s : Int} {L : List ItD} {v : Value} {w w' : World} (h : HpNext E b m base n s L v w w') (hg : Good s L) (ho : HeapO s L) (hb : base ≤ w.heap.size) : HSN E b m base n s L v w w' := by
  obtain ⟨n', v', h1, h2, h3, h4⟩ := h
  exact ⟨n', v', h1, ⟨h2, hg, ho, Nat.le_trans hb h3.size⟩, h3, h4⟩
theorem HSN.same {E : ElemOf Try.prog 3 Int} {b m base n k : Nat} {s : Int} {L : List ItD} {v : Value} {w w' : World} (h : HS E w b m base n s L v) (f : Fr [] w w') (hk : n ≤ k) : HSN E b m base k s L v w w' :=
  ⟨n, v, hk, h.fr f, f.mono (by simp), .inl rfl⟩
section
variable {E : ElemOf Try.prog 3 Int} (hE : ∀ v, E.val v = .int .i64 v) (hE0 : E.zero = 0) (hEg : ∀ v, inI v → E.good v) {b m base n : Nat} {s : Int} {L : List ItD} {v : Value} {w : World} (h : HS E w b m base n s L v)
include hE hEg h in
theorem put_c (x : ItD) (hid : inI x.id) (hn : n ≤ 8000000000) :
    Calls Try.prog 10 #[.pointer (some ⟨b, 0, none⟩), x.val] w fun e w' => e = .returned (.int .i64 (putE L x)) ∧ HSN E b m base (n + 2002) s (putL s L x) v w w' := by
  by_cases h1 : x.ok
  · cases h2 : hasI L x.id with
    | true =>
      have e1 : putE L x = 6 := by unfold putE; rw [if_pos h1, if_pos h2]
      rw [putL_same (by rw [e1]; decide), e1]
      exact (put_twice E b m base n s L v x w h.at_ h1 hid h2).mono fun _ _ ⟨a, f⟩ => ⟨a, HSN.same h f (by omega)⟩
    | false =>
      by_cases h3 : L.length = 1000
      · have e1 : putE L x = 4 := by unfold putE; rw [if_pos h1, if_neg (by rw [h2]; simp), if_pos h3]
        rw [putL_same (by rw [e1]; decide), e1]
        exact (put_many E b m base n s L v x w h.at_ h1 hid h2 h3).mono fun _ _ ⟨a, f⟩ => ⟨a, HSN.same h f (by omega)⟩
      · have e1 : putE L x = 0 := putE_zero.2 ⟨h1, h2, h3⟩
        have h4 : posM L x.id = none := by
          cases hq : posM L x.id with
          | none => rfl
          | some q => unfold hasI at h2; rw [hq] at h2; cases h2
        have hg := putL_good (x := x) h.good hid
        have ho := putL_ord (x := x) h.ord
        have hf := h.good.few
        rw [e1]
        refine (put_ok E hE hEg b m base n s L v x w h.at_ h.good h1 hid h4 (by omega) h.low hn).mono fun _ _ ⟨a, f⟩ => ⟨a, ?_⟩
        have e2 : putL s L x = upL s (L ++ [x]) L.length := by unfold putL; rw [if_pos e1]
        rw [e2] at hg ho ⊢
        exact HSN.of f hg ho h.low
  · have e1 : putE L x = 3 := by unfold putE; rw [if_neg h1]
    rw [putL_same (by rw [e1]; decide), e1]
    exact (put_range b x w h1).mono fun _ _ ⟨a, f⟩ => ⟨a, HSN.same h f (by omega)⟩
include h in
theorem peek_c : Calls Try.prog 16 #[.pointer (some ⟨b, 0, none⟩)] w fun e w' => e = .returned (.tuple #[(topX L).val, .bool (nonB L)]) ∧ Fr [] w w' :=
  peek_any E b m base n s L v w h.at_ h.good.few
include hE hE0 hEg h in
theorem pop_c (hn : n ≤ 8000000000) :
    Calls Try.prog 12 #[.pointer (some ⟨b, 0, none⟩)] w fun e w' => e = .returned (.tuple #[(topX L).val, .bool (nonB L)]) ∧ HSN E b m base (n + 5000) s (popL s L) v w w' := by
  by_cases h1 : 0 < L.length
  · have hg := popL_good h.good
    have ho := popL_ord h.ord
    have e2 : popL s L = remL s L 0 := by unfold popL; rw [if_pos h1]
    rw [e2] at hg ho ⊢
    have e3 : nonB L = true := decide_eq_true h1
    rw [e3]
    exact (pop_some E hE hE0 hEg b m base n s L v w h.at_ h.good h1 h.low hn).mono fun _ _ ⟨a, f⟩ => ⟨a, HSN.of f hg ho h.low⟩
  · obtain rfl : L = [] := List.eq_nil_of_length_eq_zero (by omega)
    exact (pop_none E b m base n s v w h.at_).mono fun _ _ ⟨a, f⟩ => ⟨a, HSN.same h f (by omega)⟩
include hE hE0 hEg h in
theorem rem_c (id : Int) (hid : inI id) (hn : n ≤ 8000000000) :
    Calls Try.prog 15 #[.pointer (some ⟨b, 0, none⟩), .int .i64 id] w fun e w' => e = .returned (.tuple #[(remX L id).val, .bool (hasI L id)]) ∧ HSN E b m base (n + 5000) s (rmL s L id) v w w' := by
  cases h1 : hasI L id with
  | true =>
    have hg := rmL_good (id := id) h.good
    have ho := rmL_ord (id := id) h.ord
    have e2 : rmL s L id = remL s L (atI L id) := by unfold rmL; rw [if_pos h1]
    have e3 : remX L id = L.getD (atI L id) default := by unfold remX; rw [if_pos h1]
    rw [e2] at hg ho ⊢
    rw [e3]
    obtain ⟨h2, h3⟩ := atI_spec h1
    exact (remove_some E hE hE0 hEg b m base n s L v id _ w h.at_ h.good hid h2 h3 h.low hn).mono fun _ _ ⟨a, f⟩ => ⟨a, HSN.of f hg ho h.low⟩
  | false =>
    have e3 : remX L id = default := by unfold remX; rw [if_neg (by rw [h1]; simp)]
    have h2 : posM L id = none := by
      cases hq : posM L id with
      | none => rfl
      | some q => unfold hasI at h1; rw [hq] at h1; cases h1
    rw [rmL_same h1, e3]
    exact (remove_none E hE hE0 b m base n s L v id w h.at_ hid h2).mono fun _ _ ⟨a, f⟩ => ⟨a, HSN.same h f (by omega)⟩
end
theorem heapS_nil (s : Int) (h : stepOk s) : Good s [] ∧ HeapO s [] :=
  ⟨⟨h, by simp, by simp, fun a b ha => absurd ha (by simp), by simp⟩, heapO_nil s⟩
theorem new_c (E : ElemOf Try.prog 3 Int) (s : Int) (w : World) (hs : stepOk s) : Calls Try.prog 8 #[.int .i64 s] w fun e w' => e = .returned (.tuple #[.pointer (some ⟨w.heap.size + 1, 0, none⟩), .int .i64 0]) ∧ HS E w' (w.heap.size + 1) w.heap.size (w.heap.size + 2) 0 s [] (.slice none 0 0) ∧ Fr [] w w' ∧ w'.heap.size = w.heap.size + 2 :=
  (new_good E s w hs).mono fun _ _ ⟨a, b, c, d⟩ => ⟨a, ⟨b, (heapS_nil s hs).1, (heapS_nil s hs).2, by omega⟩, c, d⟩
theorem HSN.next {E : ElemOf Try.prog 3 Int} {w0 w w' : World} {S : List Nat} {b m base n k : Nat} {s : Int} {L L' : List ItD} {v : Value} (h : HS E w b m base n s L v) (N : HSN E b m base k s L' v w w') (F : Fr S w0 w) (hb : w0.heap.size ≤ b) (hm : w0.heap.size ≤ m) (hl : w0.heap.size ≤ base) :
    ∃ n' v', n' ≤ k ∧ HS E w' b m base n' s L' v' ∧ Fr S w0 w' := by
  obtain ⟨n', v', h1, h2, h3, h4⟩ := N
  refine ⟨n', v', h1, h2, F.trans h3 (fun y hy => ?_)⟩
  simp only [List.mem_cons, Option.mem_toList] at hy
  rcases hy with rfl | rfl | hy
  · exact .inr hb
  · exact .inr hm
  · exact .inr (Nat.le_trans hl (h.at_.row.lt y hy).1)
end Go.Proofs.Ytpjmmhpkiepbmaa
