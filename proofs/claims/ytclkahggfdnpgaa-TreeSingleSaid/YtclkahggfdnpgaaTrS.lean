/- Of a call that isn't Many one child lives at most. Plain. -/
import Derived.Test.YtclkahggfdnpgaaTrH
set_option linter.unusedVariables false
set_option linter.unusedSimpArgs false
namespace Go.Proofs.Ytclkahggfdnpgaa
open Go.RowKit
theorem doF_zero {P : PT} {id at' : Int} (h : (doF P id at').2.1 = 0) :
    (∃ x, P.of id = some x ∧ hasP at' x.m.length = true ∧ P.C ((x.tp : Int), at') = none ∧ doF P id at' = (-1, 0, P.setm id (doM (P.f x) x.m at'.toNat))) ∨
    (∃ x q, P.of id = some x ∧ hasP at' x.m.length = true ∧ P.C ((x.tp : Int), at') = some q ∧ (q.many = true ∨ (P.kids id at').length = 0) ∧ doF P id at' = ((P.next : Int), 0, { P with L := P.L ++ [⟨P.next, q.to_.toNat, (P.Fs.getD q.to_.toNat default).E.map startM, id, at'⟩], next := P.next + 1 })) := by
  rcases ho : P.of id with _ | x
  · rw [doF_none ho] at h; cases h
  · by_cases hr : hasP at' x.m.length = true
    · by_cases he : enabB (P.f x) x.m at' = true
      · rcases hC : P.C ((x.tp : Int), at') with _ | q
        · exact .inl ⟨x, rfl, hr, hC, doF_done ho hr he hC⟩
        · have e := doF_call ho hr he hC
          refine .inr ⟨x, q, rfl, hr, hC, ?_⟩
          rw [e] at h ⊢
          by_cases h1 : q.many = false ∧ 0 < (P.kids id at').length
          · rw [if_pos h1] at h; cases h
          · rw [if_neg h1] at h ⊢
            by_cases h2 : 40 ≤ P.L.length
            · rw [if_pos h2] at h; cases h
            · rw [if_neg h2]
              refine ⟨?_, rfl⟩
              cases hm : q.many
              · right
                have : ¬ 0 < (P.kids id at').length := fun hk => h1 ⟨hm, hk⟩
                omega
              · exact .inl rfl
      · rw [doF_off ho hr (by simpa using he)] at h; cases h
    · rw [doF_range ho (by simpa using hr)] at h; cases h
theorem endF_zero {P : PT} {n : Nat} (g : GoodP P n) {id : Int} (h : (endF P id).1 = 0) :
    ∃ x y, P.of id = some x ∧ id ≠ 0 ∧ (P.kids id (-1)).length = 0 ∧ P.of x.par = some y ∧ doE (P.f y) y.m x.ev = 0 ∧ endF P id = (0, { P with L := (P.L.map (PI.setm y.id (doM (P.f y) y.m x.ev.toNat))).filter (fun z => decide (z.id ≠ id)) }) := by
  rcases ho : P.of id with _ | x
  · rw [endF_none ho] at h; cases h
  · have e := endF_some ho
    rw [e] at h
    by_cases h0 : id = 0
    · rw [if_pos h0] at h; cases h
    · rw [if_neg h0] at h e
      by_cases h1 : 0 < (P.kids id (-1)).length
      · rw [if_pos h1] at h; cases h
      · rw [if_neg h1] at h e
        by_cases h2 : accB (P.f x).en x.m = true
        · rw [if_pos h2] at h e
          obtain ⟨hx, hid⟩ := of_mem ho
          obtain ⟨_, _, _, y, hy, hyp, _⟩ := g.par x hx (by rw [hid]; exact h0)
          have hoy : P.of x.par = some y := by rw [← hyp]; exact of_some g.srt hy
          rw [hoy] at h e
          simp only at h e
          by_cases h3 : doE (P.f y) y.m x.ev = 0
          · rw [if_pos h3] at e
            exact ⟨x, y, rfl, h0, by omega, hoy, h3, e⟩
          · rw [if_neg h3] at h
            exact absurd h h3
        · rw [if_neg h2] at h; cases h
theorem actF_err {P : PT} {n : Nat} (g : GoodP P n) {k id at' : Int} (h : (actF P k id at').2.1 ≠ 0) : (actF P k id at').2.2 = P := by
  have hd : (doF P id at').2.1 ≠ 0 → (doF P id at').2.2 = P := by
    intro h
    rcases ho : P.of id with _ | x
    · rw [doF_none ho]
    · by_cases hr : hasP at' x.m.length = true
      · by_cases he : enabB (P.f x) x.m at' = true
        · rcases hC : P.C ((x.tp : Int), at') with _ | q
          · rw [doF_done ho hr he hC] at h; exact absurd rfl h
          · have e := doF_call ho hr he hC
            rw [e] at h ⊢
            by_cases h1 : q.many = false ∧ 0 < (P.kids id at').length
            · rw [if_pos h1]
            · rw [if_neg h1] at h ⊢
              by_cases h2 : 40 ≤ P.L.length
              · rw [if_pos h2]
              · rw [if_neg h2] at h; exact absurd rfl h
        · rw [doF_off ho hr (by simpa using he)]
      · rw [doF_range ho (by simpa using hr)]
  have hE : (endF P id).1 ≠ 0 → (endF P id).2 = P := by
    intro h
    rcases ho : P.of id with _ | x
    · rw [endF_none ho]
    · have e := endF_some ho
      rw [e] at h ⊢
      by_cases h0 : id = 0
      · rw [if_pos h0]
      · rw [if_neg h0] at h ⊢
        by_cases h1 : 0 < (P.kids id (-1)).length
        · rw [if_pos h1]
        · rw [if_neg h1] at h ⊢
          by_cases h2 : accB (P.f x).en x.m = true
          · rw [if_pos h2] at h ⊢
            rcases hoy : P.of x.par with _ | y
            · rfl
            · rw [hoy] at h
              simp only at h ⊢
              by_cases h3 : doE (P.f y) y.m x.ev = 0
              · rw [if_pos h3] at h; exact absurd rfl h
              · rw [if_neg h3]
          · rw [if_neg h2]
  have hT : (tickF P).1 ≠ 0 → (tickF P).2 = P := by
    unfold tickF
    split
    · intro _; rfl
    · intro h; exact absurd rfl h
  unfold actF at h ⊢
  split at h
  · rename_i hk
    rw [if_pos hk]
    exact hd h
  · rename_i hk
    rw [if_neg hk]
    split at h
    · rename_i hk2
      rw [if_pos hk2]
      exact hE h
    · rename_i hk2
      rw [if_neg hk2]
      split at h
      · rename_i hk3
        rw [if_pos hk3]
        exact hT h
      · rename_i hk3
        rw [if_neg hk3]
theorem of_setm (P : PT) (id : Int) (M : List MarkD) : (P.setm id M).of id = (P.of id).map (fun x => { x with m := M }) := by
  unfold PT.setm PT.of
  simp only
  generalize P.L = L
  induction L with
  | nil => rfl
  | cons z L ih =>
    rw [List.map_cons, List.find?_cons, List.find?_cons, (setm_same id M z).1]
    by_cases h : z.id = id
    · rw [decide_eq_true h]
      simp only [Option.map_some]
      unfold PI.setm
      rw [if_pos h]
    · rw [decide_eq_false h]
      exact ih
theorem of_push {P : PT} {id : Int} {x : PI} (h : P.of id = some x) (z : PI) (n : Nat) : ({ P with L := P.L ++ [z], next := n } : PT).of id = some x := by
  unfold PT.of at h ⊢
  simp only
  rw [List.find?_append, h]
  rfl
theorem of_drop {P : PT} {id j : Int} (h : j ≠ id) : ({ P with L := P.L.filter (fun z => decide (z.id ≠ id)) } : PT).of j = P.of j := by
  unfold PT.of
  simp only
  generalize P.L = L
  induction L with
  | nil => rfl
  | cons z L ih =>
    rw [List.filter_cons]
    by_cases h1 : z.id = id
    · rw [if_neg (by simpa using h1), List.find?_cons, decide_eq_false (by omega)]
      exact ih
    · rw [if_pos (by simpa using h1), List.find?_cons, List.find?_cons]
      cases decide (z.id = j)
      · exact ih
      · rfl
def cntP (P : PT) (id at' : Int) : Nat := (P.L.filter (fun z => decide (z.par = id ∧ z.ev = at'))).length
structure SingI (P : PT) (tm : Int → Option Int) (ch : Int × Int → Option Int) (fm : Int → Option (Int × Int)) : Prop where
  tp : ∀ x ∈ P.L, (tm x.id).getD 0 = x.tp
  ch : ∀ id at', 0 ≤ id → (ch (id, at')).getD 0 = (cntP P id at' : Nat)
  fm : ∀ x ∈ P.L, x.id ≠ 0 → (fm x.id).getD (0, 0) = (x.par, x.ev)
theorem cnt_map (L : List PI) (h : PI → PI) (hh : ∀ x, (h x).par = x.par ∧ (h x).ev = x.ev) (id at' : Int) : ((L.map h).filter (fun z => decide (z.par = id ∧ z.ev = at'))).length = (L.filter (fun z => decide (z.par = id ∧ z.ev = at'))).length := by
  rw [List.filter_map, List.length_map]
  congr 1
  apply List.filter_congr
  intro x _
  show decide ((h x).par = id ∧ (h x).ev = at') = _
  rw [(hh x).1, (hh x).2]
theorem SingI.mapL {P : PT} {tm : Int → Option Int} {ch : Int × Int → Option Int} {fm : Int → Option (Int × Int)} (s : SingI P tm ch fm) (h : PI → PI) (hh : ∀ x, (h x).id = x.id ∧ (h x).tp = x.tp ∧ (h x).par = x.par ∧ (h x).ev = x.ev) : SingI { P with L := P.L.map h } tm ch fm := by
  refine ⟨fun x hx => ?_, fun id at' h0 => ?_, fun x hx h0 => ?_⟩
  · obtain ⟨y, hy, rfl⟩ := List.mem_map.1 hx
    rw [(hh y).1, (hh y).2.1]
    exact s.tp y hy
  · rw [s.ch id at' h0]
    unfold cntP
    rw [cnt_map P.L h (fun x => (hh x).2.2)]
  · obtain ⟨y, hy, rfl⟩ := List.mem_map.1 hx
    rw [(hh y).1] at h0 ⊢
    rw [(hh y).2.2.1, (hh y).2.2.2]
    exact s.fm y hy h0
theorem SingI.spawn {P : PT} {n : Nat} (g : GoodP P n) {tm : Int → Option Int} {ch : Int × Int → Option Int} {fm : Int → Option (Int × Int)} (s : SingI P tm ch fm) {id at' tq : Int} (h0 : 0 ≤ tq) (hid : id < P.next) (M : List MarkD) :
    SingI { P with L := P.L ++ [⟨P.next, tq.toNat, M, id, at'⟩], next := P.next + 1 } (fun y => if y = (P.next : Int) then some tq else tm y) (fun y => if y = (id, at') then some ((ch (id, at')).getD 0 + 1) else ch y) (fun y => if y = (P.next : Int) then some (id, at') else fm y) := by
  refine ⟨fun x hx => ?_, fun i a hi => ?_, fun x hx hx0 => ?_⟩
  · rcases List.mem_append.1 hx with hx | hx
    · have := (g.lo x hx).2
      rw [if_neg (by omega)]
      exact s.tp x hx
    · obtain rfl := List.mem_singleton.1 hx
      rw [if_pos rfl]
      show tq = ((tq.toNat : Nat) : Int)
      omega
  · unfold cntP
    simp only
    rw [List.filter_append, List.length_append]
    have hs := s.ch i a hi
    unfold cntP at hs
    by_cases he : (i, a) = (id, at')
    · rw [if_pos he, ← he]
      simp only [Prod.mk.injEq] at he
      obtain ⟨rfl, rfl⟩ := he
      rw [show (List.filter (fun z : PI => decide (z.par = i ∧ z.ev = a)) [⟨P.next, tq.toNat, M, i, a⟩]).length = 1 by simp]
      show (some ((ch (i, a)).getD 0 + 1)).getD 0 = _
      rw [Option.getD_some, hs]
      omega
    · rw [if_neg he]
      simp only [Prod.mk.injEq] at he
      rw [show (List.filter (fun z : PI => decide (z.par = i ∧ z.ev = a)) [⟨P.next, tq.toNat, M, id, at'⟩]).length = 0 by
        rw [List.filter_cons, if_neg (by simp only [decide_eq_true_eq]; rintro ⟨rfl, rfl⟩; exact he ⟨rfl, rfl⟩)]; rfl]
      rw [hs]
      omega
  · rcases List.mem_append.1 hx with hx | hx
    · have := (g.lo x hx).2
      rw [if_neg (by omega)]
      exact s.fm x hx hx0
    · obtain rfl := List.mem_singleton.1 hx
      rw [if_pos rfl]
      rfl
theorem cnt_drop {L : List PI} (hs : (L.map (·.id)).Pairwise (· < ·)) {x : PI} (hx : x ∈ L) (i a : Int) :
    ((L.filter (fun z => decide (z.id ≠ x.id))).filter (fun z => decide (z.par = i ∧ z.ev = a))).length + (if x.par = i ∧ x.ev = a then 1 else 0) = (L.filter (fun z => decide (z.par = i ∧ z.ev = a))).length := by
  induction L with
  | nil => cases hx
  | cons z L ih =>
    rw [List.map_cons, List.pairwise_cons] at hs
    rcases List.mem_cons.1 hx with rfl | hx'
    · have hall : L.filter (fun z => decide (z.id ≠ x.id)) = L := by
        rw [List.filter_eq_self]
        intro y hy
        have := hs.1 y.id (List.mem_map.2 ⟨y, hy, rfl⟩)
        rw [decide_eq_true_iff]
        omega
      rw [List.filter_cons, if_neg (by simp), hall, List.filter_cons]
      by_cases h : x.par = i ∧ x.ev = a
      · rw [if_pos h, if_pos (by simpa using h)]
        simp
      · rw [if_neg h, if_neg (by simpa using h)]
        rfl
    · have hz := hs.1 x.id (List.mem_map.2 ⟨x, hx', rfl⟩)
      have := ih hs.2 hx'
      rw [List.filter_cons_of_pos (l := L) (p := fun z : PI => decide (z.id ≠ x.id)) (by rw [decide_eq_true_iff]; omega)]
      by_cases h : z.par = i ∧ z.ev = a
      · rw [List.filter_cons_of_pos (p := fun z : PI => decide (z.par = i ∧ z.ev = a)) (by simpa using h), List.filter_cons_of_pos (p := fun z : PI => decide (z.par = i ∧ z.ev = a)) (by simpa using h)]
        rw [List.length_cons, List.length_cons]
        omega
      · rw [List.filter_cons_of_neg (p := fun z : PI => decide (z.par = i ∧ z.ev = a)) (by simpa using h), List.filter_cons_of_neg (p := fun z : PI => decide (z.par = i ∧ z.ev = a)) (by simpa using h)]
        exact this
theorem SingI.drop {P : PT} {n : Nat} (g : GoodP P n) {tm : Int → Option Int} {ch : Int × Int → Option Int} {fm : Int → Option (Int × Int)} (s : SingI P tm ch fm) {x : PI} (hx : x ∈ P.L) :
    SingI { P with L := P.L.filter (fun z => decide (z.id ≠ x.id)) } tm (fun y => if y = (x.par, x.ev) then some ((ch (x.par, x.ev)).getD 0 - 1) else ch y) fm := by
  refine ⟨fun z hz => s.tp z (List.mem_filter.1 hz).1, fun i a hi => ?_, fun z hz h0 => s.fm z (List.mem_filter.1 hz).1 h0⟩
  have hc := cnt_drop g.srt hx i a
  have hs := s.ch i a hi
  unfold cntP at hs ⊢
  simp only
  by_cases he : (i, a) = (x.par, x.ev)
  · rw [if_pos he, ← he, Option.getD_some, hs]
    simp only [Prod.mk.injEq] at he
    rw [if_pos ⟨he.1.symm, he.2.symm⟩] at hc
    omega
  · rw [if_neg he, hs]
    simp only [Prod.mk.injEq] at he
    rw [if_neg (fun h => he ⟨h.1.symm, h.2.symm⟩)] at hc
    omega
theorem kids_cnt {P : PT} {id at' : Int} (h0 : 0 ≤ id) (ha : 0 ≤ at') : (P.kids id at').length = cntP P id at' := by
  unfold PT.kids cntP
  congr 1
  apply List.filter_congr
  intro z _
  unfold PI.kid
  rw [decide_eq_true (show id ≥ 0 from h0), decide_eq_false (show ¬ at' < 0 by omega)]
  by_cases h1 : z.par = id <;> by_cases h2 : z.ev = at' <;> simp [h1, h2]
theorem single0 {Fs : List FlatD} {Cs : List CallD} : SingI (newPT Fs Cs) (fun y => if y = 0 then some 0 else none) (fun _ => none) (fun _ => none) := by
  refine ⟨fun x hx => ?_, fun id at' h0 => ?_, fun x hx h0 => ?_⟩
  · obtain rfl := List.mem_singleton.1 hx
    rfl
  · show (0 : Int) = ((cntP (newPT Fs Cs) id at' : Nat) : Int)
    unfold cntP newPT
    simp only
    rw [List.filter_cons, if_neg (by simp only [decide_eq_true_eq]; rintro ⟨h1, _⟩; omega)]
    rfl
  · obtain rfl := List.mem_singleton.1 hx
    exact absurd rfl h0
end Go.Proofs.Ytclkahggfdnpgaa
