/- How a tree hangs together. Plain. -/
import Derived.Test.YtclkahggfdnpgaaTr20
set_option linter.unusedVariables false
set_option linter.unusedSimpArgs false
namespace Go.Proofs.Ytclkahggfdnpgaa
open Go.RowKit
theorem GoodP.parlt {P : PT} {n : Nat} (g : GoodP P n) {x : PI} (hx : x ∈ P.L) : x.par < x.id ∧ -1 ≤ x.par := by
  by_cases h0 : x.id = 0
  · obtain ⟨y, r, hL, h1, h2, _⟩ := g.root
    have : x = y := srt_uniq g.srt hx (by rw [hL]; simp) (by omega)
    subst this
    omega
  · have := g.par x hx h0
    omega
theorem GoodP.depthN_more {P : PT} {n : Nat} (g : GoodP P n) : ∀ (k : Nat) (id : Int), id < k → P.depthN (k + 1) id = P.depthN k id := by
  intro k
  induction k with
  | zero =>
    intro id h
    have : P.of id = none := of_none.2 (fun x hx he => by have := (g.lo x hx).1; omega)
    unfold PT.depthN
    rw [this]
  | succ k ih =>
    intro id h
    rcases ho : P.of id with _ | x
    · rw [PT.depthN, PT.depthN, ho]
    · obtain ⟨hx, hid⟩ := of_mem ho
      rw [PT.depthN, ho]
      rw [show P.depthN (k + 1) id = P.depthN k x.par + 1 by rw [PT.depthN, ho]]
      simp only
      rw [ih x.par (by have := (g.parlt hx).1; have : ((k + 1 : Nat) : Int) = k + 1 := by omega
                       omega)]
theorem GoodP.depth_step {P : PT} {n : Nat} (g : GoodP P n) (hn : n ≤ 900) {x : PI} (hx : x ∈ P.L) : P.depth x.id = P.depth x.par + 1 := by
  have h1 : P.depth x.id = P.depthN 999 x.par + 1 := by
    unfold PT.depth
    rw [show (1000 : Nat) = 999 + 1 from rfl, PT.depthN, of_some g.srt hx]
  rw [h1]
  unfold PT.depth
  have hlo := g.lo x hx
  have := g.next
  have h2 := g.parlt hx
  rw [show (1000 : Nat) = 999 + 1 from rfl, g.depthN_more 999 x.par (by omega)]
theorem GoodP.depth_neg {P : PT} {n : Nat} (g : GoodP P n) {id : Int} (h : id < 0) : P.depth id = -1 := by
  have : P.of id = none := of_none.2 (fun x hx he => by have := (g.lo x hx).1; omega)
  unfold PT.depth
  rw [show (1000 : Nat) = 999 + 1 from rfl, PT.depthN, this]
theorem GoodP.depth_le {P : PT} {n : Nat} (g : GoodP P n) (hn : n ≤ 900) : ∀ (k : Nat) (x : PI), x ∈ P.L → x.id < k → 0 ≤ P.depth x.id ∧ P.depth x.id ≤ x.tp ∧ (P.depth x.id = 0 ↔ x.id = 0) := by
  intro k
  induction k with
  | zero => intro x hx h; have := (g.lo x hx).1; omega
  | succ k ih =>
    intro x hx h
    have hs := g.depth_step hn hx
    by_cases h0 : x.id = 0
    · have hp : x.par = -1 := by have := g.parlt hx; omega
      rw [hp, g.depth_neg (id := -1) (by omega)] at hs
      omega
    · obtain ⟨h1, h2, h3, y, hy, h4, c, hc, hct⟩ := g.par x hx h0
      obtain ⟨c1, c2, c3, c4, c5⟩ := g.calls _ _ hc
      simp only [Prod.mk.injEq] at c1
      have := ih y hy (by omega)
      rw [h4] at this
      omega
theorem GoodP.depth_ok {P : PT} {n : Nat} (g : GoodP P n) (hn : n ≤ 900) {x : PI} (hx : x ∈ P.L) : 0 ≤ P.depth x.id ∧ P.depth x.id ≤ 7 ∧ (P.depth x.id = 0 ↔ x.id = 0) := by
  have hlo := g.lo x hx
  have h1 := g.depth_le hn (x.id.toNat + 1) x hx (by omega)
  have h2 := g.tp x hx
  have h3 := g.tmpls
  omega
/-- Each instance but the first is one's child. -/
theorem kids_sum (L : List PI) : ∀ I : List Int, I.Pairwise (· < ·) → (I.map (fun i => (L.filter (fun z => decide (z.par = i))).length)).sum = (L.filter (fun z => decide (z.par ∈ I))).length := by
  intro I
  induction I with
  | nil =>
    intro _
    symm
    show (L.filter _).length = 0
    rw [List.length_eq_zero_iff, List.filter_eq_nil_iff]
    intro z _
    simp
  | cons i I ih =>
    intro hs
    rw [List.pairwise_cons] at hs
    rw [List.map_cons, List.sum_cons, ih hs.2]
    have key : ∀ L : List PI, (L.filter (fun z => decide (z.par = i))).length + (L.filter (fun z => decide (z.par ∈ I))).length = (L.filter (fun z => decide (z.par ∈ i :: I))).length := by
      intro L
      induction L with
      | nil => rfl
      | cons z L ih2 =>
        simp only [List.filter_cons, List.mem_cons]
        by_cases h1 : z.par = i
        · have h2 : ¬ z.par ∈ I := fun h => by have := hs.1 _ h; omega
          simp only [h1, decide_true, true_or, if_true, List.length_cons]
          rw [if_neg (by simpa [h1] using h2)]
          simp only [List.mem_cons] at ih2
          omega
        · by_cases h2 : z.par ∈ I
          · simp only [h1, h2, decide_true, decide_false, or_true, if_true, List.length_cons, Bool.false_eq_true, if_false]
            simp only [List.mem_cons] at ih2
            omega
          · simp only [h1, h2, decide_false, or_self, Bool.false_eq_true, if_false]
            simp only [List.mem_cons] at ih2
            omega
    exact key L
theorem GoodP.kids_filter {P : PT} {n : Nat} (g : GoodP P n) {x : PI} (hx : x ∈ P.L) : P.kids x.id (-1) = P.L.filter (fun z => decide (z.par = x.id)) := by
  unfold PT.kids
  apply List.filter_congr
  intro z _
  have := (g.lo x hx).1
  unfold PI.kid
  rw [decide_eq_true (show x.id ≥ 0 from this), decide_eq_true (show (-1 : Int) < 0 by omega)]
  simp
theorem GoodP.kids_all {P : PT} {n : Nat} (g : GoodP P n) : (P.L.map (fun x => (P.kids x.id (-1)).length)).sum + 1 = P.L.length := by
  have e1 : P.L.map (fun x => (P.kids x.id (-1)).length) = (P.L.map (·.id)).map (fun i => (P.L.filter (fun z => decide (z.par = i))).length) := by
    rw [List.map_map]
    apply List.map_congr_left
    intro x hx
    show _ = (P.L.filter (fun z => decide (z.par = x.id))).length
    rw [g.kids_filter hx]
  rw [e1, kids_sum P.L _ g.srt]
  obtain ⟨x, r, hL, h1, h2, _⟩ := g.root
  have hall : P.L.filter (fun z => decide (z.par ∈ P.L.map (·.id))) = r := by
    have hx : ¬ x.par ∈ P.L.map (·.id) := by
      intro h
      obtain ⟨y, hy, he⟩ := List.mem_map.1 h
      have := (g.lo y hy).1
      omega
    have hr : ∀ z ∈ r, z.par ∈ P.L.map (·.id) := by
      intro z hz
      have hz2 : z ∈ P.L := by rw [hL]; exact List.mem_cons_of_mem _ hz
      have hs := g.srt
      rw [hL, List.map_cons, List.pairwise_cons] at hs
      have h0 := hs.1 z.id (List.mem_map.2 ⟨z, hz, rfl⟩)
      obtain ⟨_, _, _, y, hy, h4, _⟩ := g.par z hz2 (by omega)
      exact List.mem_map.2 ⟨y, hy, h4⟩
    have hgen : ∀ I : List Int, ¬ x.par ∈ I → (∀ z ∈ r, z.par ∈ I) → P.L.filter (fun z => decide (z.par ∈ I)) = r := by
      intro I hx hr
      rw [hL, List.filter_cons, if_neg (by simpa using hx), List.filter_eq_self.2 (fun z hz => by simpa using hr z hz)]
    exact hgen _ hx hr
  rw [hall, hL]
  simp
/-- How many children the first i instances have. -/
def PT.seen (P : PT) (i : Nat) : Nat := ((P.L.take i).map (fun x => (P.kids x.id (-1)).length)).sum
theorem PT.seen_succ (P : PT) (i : Nat) (h : i < P.L.length) : P.seen (i + 1) = P.seen i + (P.kids (P.L.getD i default).id (-1)).length := by
  unfold PT.seen
  rw [take_succD P.L i h, List.map_append, List.sum_append]
  simp
theorem PT.seen_le (P : PT) (i : Nat) : P.seen i ≤ (P.L.map (fun x => (P.kids x.id (-1)).length)).sum := by
  unfold PT.seen
  have h := List.take_append_drop i P.L
  have e : (P.L.map (fun x => (P.kids x.id (-1)).length)).sum = ((P.L.take i).map (fun x => (P.kids x.id (-1)).length)).sum + ((P.L.drop i).map (fun x => (P.kids x.id (-1)).length)).sum := by
    rw [← List.sum_append, ← List.map_append, h]
  omega
theorem GoodP.seen_all {P : PT} {n : Nat} (g : GoodP P n) : P.seen P.L.length + 1 = P.L.length := by
  unfold PT.seen
  rw [List.take_of_length_le (Nat.le_refl _)]
  exact g.kids_all
/-- A number is given once, the next one. -/
theorem actF_next {P : PT} {n : Nat} (k id at' : Int) : ((actF P k id at').2.1 = 0 ∧ 0 ≤ (actF P k id at').1 ∧ (actF P k id at').1 = P.next ∧ (k = 0 ∨ k = 1) ∧ (actF P k id at').2.2.next = P.next + 1) ∨ (((actF P k id at').2.1 ≠ 0 ∨ (actF P k id at').1 = -1) ∧ (actF P k id at').2.2.next = P.next) := by
  have hd : ((doF P id at').2.1 = 0 ∧ 0 ≤ (doF P id at').1 ∧ (doF P id at').1 = P.next ∧ (doF P id at').2.2.next = P.next + 1) ∨ (((doF P id at').2.1 ≠ 0 ∨ (doF P id at').1 = -1) ∧ (doF P id at').2.2.next = P.next) := by
    unfold doF
    rcases P.of id with _ | x
    · exact .inr ⟨.inl (show (10 : Int) ≠ 0 by decide), rfl⟩
    · simp only
      split
      · split
        · rcases P.C ((x.tp : Int), at') with _ | q
          · exact .inr ⟨.inr rfl, rfl⟩
          · simp only
            split
            · exact .inr ⟨.inl (show (17 : Int) ≠ 0 by decide), rfl⟩
            · split
              · exact .inr ⟨.inl (show (4 : Int) ≠ 0 by decide), rfl⟩
              · exact .inl ⟨rfl, by simp, rfl, rfl⟩
        · exact .inr ⟨.inl (show (11 : Int) ≠ 0 by decide), rfl⟩
      · exact .inr ⟨.inl (show (3 : Int) ≠ 0 by decide), rfl⟩
  have he : (endF P id).2.next = P.next := by
    unfold endF
    rcases P.of id with _ | x
    · rfl
    · simp only
      split
      · rfl
      · split
        · rfl
        · split
          · rcases P.of x.par with _ | y
            · rfl
            · simp only
              split <;> rfl
          · rfl
  have ht : (tickF P).2.next = P.next := by
    unfold tickF
    split <;> rfl
  unfold actF
  split
  · rename_i hk
    rcases hd with ⟨h1, h2, h3, h4⟩ | ⟨h1, h2⟩
    · exact .inl ⟨h1, h2, h3, hk, h4⟩
    · exact .inr ⟨h1, h2⟩
  · split
    · exact .inr ⟨.inr rfl, he⟩
    · split
      · exact .inr ⟨.inr rfl, ht⟩
      · exact .inr ⟨.inr rfl, rfl⟩
end Go.Proofs.Ytclkahggfdnpgaa
