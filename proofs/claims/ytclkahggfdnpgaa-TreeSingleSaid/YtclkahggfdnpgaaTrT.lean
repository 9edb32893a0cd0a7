/- The slack of a tree falls by one with each tick. Plain. -/
import Derived.Test.YtclkahggfdnpgaaTr20
set_option linter.unusedVariables false
set_option linter.unusedSimpArgs false
namespace Go.Proofs.Ytclkahggfdnpgaa
open Go.RowKit
theorem decI_min (a b : Int) (ha : a ≤ 1048576) (hb : b ≤ 1048576) : min (decI a) (decI b) = decI (min a b) := by
  unfold decI
  rcases Int.le_total a b with h | h
  · rw [Int.min_eq_left h]
    split <;> split <;> omega
  · rw [Int.min_eq_right h]
    split <;> split <;> omega
theorem slackP_le (F : PI → FlatD) (L : List PI) : ∀ c : Int, L.foldl (fun n x => min n (slackI (F x).en x.m)) c ≤ c ∧ ∀ x ∈ L, L.foldl (fun n x => min n (slackI (F x).en x.m)) c ≤ slackI (F x).en x.m := by
  induction L with
  | nil => intro c; exact ⟨Int.le_refl _, fun x h => by cases h⟩
  | cons y L ih =>
    intro c
    rw [List.foldl_cons]
    have h1 := ih (min c (slackI (F y).en y.m))
    refine ⟨by omega, fun x hx => ?_⟩
    rcases List.mem_cons.1 hx with rfl | hx
    · omega
    · exact h1.2 x hx
theorem slackP_ge (F : PI → FlatD) (L : List PI) (b : Int) (h : ∀ x ∈ L, b ≤ slackI (F x).en x.m) : ∀ c : Int, b ≤ c → b ≤ L.foldl (fun n x => min n (slackI (F x).en x.m)) c := by
  induction L with
  | nil => intro c hc; exact hc
  | cons y L ih =>
    intro c hc
    rw [List.foldl_cons]
    exact ih (fun x hx => h x (List.mem_cons_of_mem _ hx)) _ (by have := h y (List.mem_cons_self ..); omega)
theorem GoodP.slack_nn {P : PT} {n : Nat} (g : GoodP P n) : 0 ≤ P.slack ∧ P.slack ≤ 1048576 := by
  refine ⟨slackP_ge P.f P.L 0 (fun x hx => (Go.Proofs.Ytclkahggfdnpgaa.slack_nn (g.fit x hx)).1) _ (by omega), (slackP_le P.f P.L _).1⟩
theorem slackP_tick (F : PI → FlatD) (hF : ∀ x, F x.tick = F x) (L : List PI) (hf : ∀ x ∈ L, fitsB (F x).en x.m = true ∧ slackI (F x).en x.m ≠ 0) : ∀ c : Int, c ≤ 1048576 →
    (L.map PI.tick).foldl (fun n x => min n (slackI (F x).en x.m)) (decI c) = decI (L.foldl (fun n x => min n (slackI (F x).en x.m)) c) := by
  induction L with
  | nil => intro c _; rfl
  | cons y L ih =>
    intro c hc
    obtain ⟨h1, h2⟩ := hf y (List.mem_cons_self ..)
    have h3 := (Go.Proofs.Ytclkahggfdnpgaa.slack_nn h1).2
    rw [List.map_cons, List.foldl_cons, List.foldl_cons, hF]
    show (L.map PI.tick).foldl _ (min (decI c) (slackI (F y).en (y.m.map tickM))) = _
    rw [slack_tick h1 h2, decI_min _ _ hc h3]
    exact ih (fun x hx => hf x (List.mem_cons_of_mem _ hx)) _ (by omega)
theorem tickF_go {P : PT} (h : 1 ≤ P.slack) : tickF P = (0, { P with L := P.L.map PI.tick }) := by unfold tickF; rw [if_neg (by omega)]
theorem tickF_due {P : PT} (h : P.slack < 1) : tickF P = (13, P) := by unfold tickF; rw [if_pos h]
theorem GoodP.slack_tick {P : PT} {n : Nat} (g : GoodP P n) (h : 1 ≤ P.slack) : (Go.Proofs.Ytclkahggfdnpgaa.tickF P).2.slack = decI P.slack := by
  rw [tickF_go h]
  have := slackP_tick P.f (fun x => rfl) P.L (fun x hx => ⟨g.fit x hx, by have := (slackP_le P.f P.L 1048576).2 x hx; have h2 : 1 ≤ P.L.foldl (fun n x => min n (slackI (P.f x).en x.m)) 1048576 := h; omega⟩) 1048576 (by omega)
  exact this
theorem GoodP.slack_done {P : PT} {n : Nat} (g : GoodP P n) (h : P.slack = 0) : P.done = false := by
  unfold PT.done
  by_cases h1 : P.L.length = 1
  · obtain ⟨x, r, hL, _, _, _, htp⟩ := g.root
    have hr : r = [] := by
      rw [hL] at h1
      simpa using h1
    subst hr
    have hs : P.slack = min 1048576 (slackI (P.f x).en x.m) := by
      unfold PT.slack
      rw [hL]
      rfl
    have h3 := (Go.Proofs.Ytclkahggfdnpgaa.slack_nn (g.fit x (by rw [hL]; simp)))
    have h4 : slackI (P.f x).en x.m = 0 := by omega
    have h5 := slack_acc h4
    rw [Bool.and_eq_false_iff]
    refine .inr ?_
    rw [hL]
    show accB (P.Fs.getD 0 default).en x.m = false
    have : P.f x = P.Fs.getD 0 default := by unfold PT.f; rw [htp]
    rw [← this]
    exact h5
  · rw [Bool.and_eq_false_iff]
    exact .inl (decide_eq_false h1)
/-- The tree i ticks later. -/
def tickN (P : PT) : Nat → PT
  | 0 => P
  | i + 1 => (tickF (tickN P i)).2
theorem tickN_good {P : PT} {n : Nat} (g : GoodP P n) : ∀ i, GoodP (tickN P i) n
  | 0 => g
  | i + 1 => (tickN_good g i).tickF
theorem tickN_slack {P : PT} {n : Nat} (g : GoodP P n) {s : Int} (hs : P.slack = s) : ∀ i : Nat, (i : Int) ≤ s → (tickN P i).slack = if s < 1048576 then s - i else 1048576
  | 0, h => by
    have := g.slack_nn
    show P.slack = _
    split <;> omega
  | i + 1, h => by
    have ih := tickN_slack g hs i (by omega)
    have h1 : 1 ≤ (tickN P i).slack := by rw [ih]; split <;> omega
    show (tickF (tickN P i)).2.slack = _
    rw [(tickN_good g i).slack_tick h1, ih]
    unfold decI
    split <;> split <;> omega
end Go.Proofs.Ytclkahggfdnpgaa
