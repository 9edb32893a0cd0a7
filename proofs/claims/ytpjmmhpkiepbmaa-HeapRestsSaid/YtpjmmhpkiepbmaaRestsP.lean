/- Two heaps side by side; of two heaps of the same items the lists are one: plain laws. -/
import Derived.Test.YtpjmmhpkiepbmaaHpP
set_option linter.unusedVariables false
set_option linter.unusedSimpArgs false
namespace Go.Proofs.Ytpjmmhpkiepbmaa
open Go.RowKit
theorem nodup_of_map {α β : Type} {f : α → β} {L : List α} (h : (L.map f).Nodup) : L.Nodup :=
  (List.pairwise_map.1 h).imp (fun {a b} (hne : f a ≠ f b) (he : a = b) => hne (by rw [he]))
/-- Two heaps; the first one's blocks are u, u + 1 and a row, the other one's u + 2, u + 3 and a row. -/
structure TwoS (E : ElemOf Try.prog 3 Int) (W w : World) (u na nb : Nat) (s : Int) (A B : List ItD) (va vb : Value) : Prop where
  ha : HS E w (u + 1) u (u + 2) na s A va
  hb : HS E w (u + 3) (u + 2) (u + 4) nb s B vb
  s1 : ∀ y, va.ownBlock = some y → y ≠ u + 2 ∧ y ≠ u + 3 ∧ vb.ownBlock ≠ some y
  fr : Fr [] W w
theorem TwoS.stepA {E : ElemOf Try.prog 3 Int} {W w w' : World} {u na nb k : Nat} {s : Int} {A B A' : List ItD} {va vb : Value} (h : TwoS E W w u na nb s A B va vb) (N : HSN E (u + 1) u (u + 2) k s A' va w w') (wu : W.heap.size ≤ u) :
    ∃ n' v', n' ≤ k ∧ TwoS E W w' u n' nb s A' B v' vb := by
  obtain ⟨n', v', h1, h2, h3, h4⟩ := N
  have b1 := h.hb.at_.head.lt
  have b2 := h.hb.at_.map.lt
  refine ⟨n', v', h1, h2, h.hb.frS h3 ?_ ?_ ?_, ?_, h.fr.trans h3 (fun y hy => ?_)⟩
  · intro hy
    simp only [List.mem_cons, Option.mem_toList] at hy
    rcases hy with hy | hy | hy
    · omega
    · omega
    · exact (h.s1 _ hy).2.1 rfl
  · intro hy
    simp only [List.mem_cons, Option.mem_toList] at hy
    rcases hy with hy | hy | hy
    · omega
    · omega
    · exact (h.s1 _ hy).1 rfl
  · intro y hvy hy
    have := (h.hb.at_.row.lt y hvy).1
    simp only [List.mem_cons, Option.mem_toList] at hy
    rcases hy with hy | hy | hy
    · omega
    · omega
    · exact (h.s1 _ hy).2.2 hvy
  · intro y hy
    rcases h4 with h5 | ⟨q, h5, h6⟩
    · exact h.s1 y (h5 ▸ hy)
    · rw [h5] at hy
      cases hy
      exact ⟨by omega, by omega, fun hv => by have := (h.hb.at_.row.lt _ hv).2; omega⟩
  · simp only [List.mem_cons, Option.mem_toList] at hy
    rcases hy with rfl | rfl | hy
    · exact .inr (by omega)
    · exact .inr (by omega)
    · exact .inr (by have := (h.ha.at_.row.lt y hy).1; omega)
theorem TwoS.stepB {E : ElemOf Try.prog 3 Int} {W w w' : World} {u na nb k : Nat} {s : Int} {A B B' : List ItD} {va vb : Value} (h : TwoS E W w u na nb s A B va vb) (N : HSN E (u + 3) (u + 2) (u + 4) k s B' vb w w') (wu : W.heap.size ≤ u) :
    ∃ n' v', n' ≤ k ∧ TwoS E W w' u na n' s A B' va v' := by
  obtain ⟨n', v', h1, h2, h3, h4⟩ := N
  refine ⟨n', v', h1, h.ha.frS h3 ?_ ?_ ?_, h2, ?_, h.fr.trans h3 (fun y hy => ?_)⟩
  · intro hy
    simp only [List.mem_cons, Option.mem_toList] at hy
    rcases hy with hy | hy | hy
    · omega
    · omega
    · have := (h.hb.at_.row.lt _ hy).1; omega
  · intro hy
    simp only [List.mem_cons, Option.mem_toList] at hy
    rcases hy with hy | hy | hy
    · omega
    · omega
    · have := (h.hb.at_.row.lt _ hy).1; omega
  · intro y hvy hy
    have h5 := h.s1 y hvy
    simp only [List.mem_cons, Option.mem_toList] at hy
    rcases hy with hy | hy | hy
    · exact h5.2.1 hy
    · exact h5.1 hy
    · exact h5.2.2 hy
  · intro y hy
    have h7 := h.s1 y hy
    refine ⟨h7.1, h7.2.1, fun hv => ?_⟩
    rcases h4 with h5 | ⟨q, h5, h6⟩
    · exact h7.2.2 (h5 ▸ hv)
    · rw [h5] at hv
      cases hv
      have := (h.ha.at_.row.lt _ hy).2
      omega
  · simp only [List.mem_cons, Option.mem_toList] at hy
    rcases hy with rfl | rfl | hy
    · exact .inr (by omega)
    · exact .inr (by omega)
    · exact .inr (by have := (h.hb.at_.row.lt y hy).1; omega)
theorem TwoS.fr2 {E : ElemOf Try.prog 3 Int} {W w w' : World} {u na nb : Nat} {s : Int} {A B : List ItD} {va vb : Value} (h : TwoS E W w u na nb s A B va vb) (f : Fr [] w w') : TwoS E W w' u na nb s A B va vb :=
  ⟨h.ha.fr f, h.hb.fr f, h.s1, h.fr.trans f (fun y hy => .inl hy)⟩
/-- All in the second is in the first; what is in the first came among those ahead of j. -/
structure Inv1 (l : Nat → ItD) (j : Nat) (A B : List ItD) : Prop where
  sub : ∀ x ∈ B, x ∈ A
  came : ∀ x ∈ A, ∃ i, i < j ∧ (l i).id = x.id
  la : A.length ≤ j
  lb : B.length ≤ j
theorem Inv1.skip {l : Nat → ItD} {j : Nat} {A B : List ItD} (h : Inv1 l j A B) : Inv1 l (j + 1) A B :=
  ⟨h.sub, fun x hx => by obtain ⟨i, hi, he⟩ := h.came x hx; exact ⟨i, by omega, he⟩, by have := h.la; omega, by have := h.lb; omega⟩
theorem Inv1.putA {l : Nat → ItD} {j : Nat} {A B : List ItD} {s : Int} (h : Inv1 l j A B) : Inv1 l (j + 1) (putL s A (l j)) B := by
  by_cases he : putE A (l j) = 0
  · have hp := putL_perm (s := s) he
    refine ⟨fun x hx => hp.mem_iff.2 (List.mem_cons_of_mem _ (h.sub x hx)), fun x hx => ?_, by rw [hp.length_eq, List.length_cons]; have := h.la; omega, by have := h.lb; omega⟩
    rcases List.mem_cons.1 (hp.mem_iff.1 hx) with rfl | hx
    · exact ⟨j, by omega, rfl⟩
    · obtain ⟨i, hi, he⟩ := h.came x hx; exact ⟨i, by omega, he⟩
  · rw [putL_same he]; exact h.skip
theorem Inv1.same {l : Nat → ItD} {j : Nat} {A B : List ItD} (h : Inv1 l j A B) (hj : j < 1000) (hno : hasI A (l j).id = false) : putE B (l j) = putE A (l j) := by
  have hb : hasI B (l j).id = false := hasI_false.2 fun x hx => hasI_false.1 hno x (h.sub x hx)
  unfold putE
  rw [hno, hb, if_neg (show ¬ B.length = 1000 by have := h.lb; omega), if_neg (show ¬ A.length = 1000 by have := h.la; omega)]
theorem Inv1.putB {l : Nat → ItD} {j : Nat} {A B : List ItD} {s : Int} (h : Inv1 l j A B) (hj : j < 1000) (hno : hasI A (l j).id = false) : Inv1 l (j + 1) (putL s A (l j)) (putL s B (l j)) := by
  have h1 := h.putA (s := s)
  have hs := h.same hj hno
  by_cases he : putE A (l j) = 0
  · have hp := putL_perm (s := s) he
    have hq := putL_perm (s := s) (hs.trans he)
    refine ⟨fun x hx => ?_, h1.came, h1.la, by rw [hq.length_eq, List.length_cons]; have := h.lb; omega⟩
    rcases List.mem_cons.1 (hq.mem_iff.1 hx) with rfl | hx
    · exact hp.mem_iff.2 (by simp)
    · exact hp.mem_iff.2 (List.mem_cons_of_mem _ (h.sub x hx))
  · rw [putL_same (s := s) (show putE B (l j) ≠ 0 by rw [hs]; exact he)]; exact h1
/-- What is in the first alone came among those from t on. -/
structure Inv2 (l : Nat → ItD) (t n : Nat) (A B : List ItD) : Prop where
  sub : ∀ x ∈ B, x ∈ A
  left : ∀ x ∈ A, x ∈ B ∨ ∃ i, t ≤ i ∧ i < n ∧ (l i).id = x.id
theorem Inv1.two {l : Nat → ItD} {j : Nat} {A B : List ItD} (h : Inv1 l j A B) : Inv2 l 0 j A B :=
  ⟨h.sub, fun x hx => by obtain ⟨i, hi, he⟩ := h.came x hx; exact .inr ⟨i, by omega, hi, he⟩⟩
theorem Inv2.keep {l : Nat → ItD} {t n : Nat} {A B : List ItD} {s : Int} (h : Inv2 l t n A B) (hg : Good s A) (hb : hasI B (l t).id = true) : Inv2 l (t + 1) n A B := by
  refine ⟨h.sub, fun x hx => ?_⟩
  rcases h.left x hx with h1 | ⟨i, h1, h2, h3⟩
  · exact .inl h1
  · by_cases hi : i = t
    · subst hi
      obtain ⟨y, hy, hyi⟩ := hasI_true.1 hb
      have := idsNd_eq hg.nd hx (h.sub y hy) (h3.symm.trans hyi.symm)
      exact .inl (this ▸ hy)
    · exact .inr ⟨i, by omega, h2, h3⟩
theorem Inv2.drop {l : Nat → ItD} {t n : Nat} {A B : List ItD} {s : Int} (h : Inv2 l t n A B) (hg : Good s A) (hb : hasI B (l t).id = false) : Inv2 l (t + 1) n (rmL s A (l t).id) B := by
  have hnb := hasI_false.1 hb
  cases ha : hasI A (l t).id with
  | false =>
    rw [rmL_same ha]
    have hna := hasI_false.1 ha
    refine ⟨h.sub, fun x hx => ?_⟩
    rcases h.left x hx with h1 | ⟨i, h1, h2, h3⟩
    · exact .inl h1
    · by_cases hi : i = t
      · subst hi; exact absurd h3.symm (hna x hx)
      · exact .inr ⟨i, by omega, h2, h3⟩
  | true =>
    have hp := rmL_perm (s := s) ha
    have hid : (remX A (l t).id).id = (l t).id := by
      unfold remX; rw [if_pos ha]; exact (atI_spec ha).2
    have hnd : ((remX A (l t).id :: rmL s A (l t).id).map (·.id)).Nodup := (hp.map (·.id)).nodup_iff.2 (idsNd_iff.1 hg.nd)
    rw [List.map_cons, List.nodup_cons, hid] at hnd
    refine ⟨fun x hx => ?_, fun x hx => ?_⟩
    · rcases List.mem_cons.1 (hp.mem_iff.2 (h.sub x hx)) with rfl | h1
      · exact absurd hid (hnb _ hx)
      · exact h1
    · rcases h.left x (hp.mem_iff.1 (List.mem_cons_of_mem _ hx)) with h1 | ⟨i, h1, h2, h3⟩
      · exact .inl h1
      · by_cases hi : i = t
        · subst hi; exact absurd (List.mem_map.2 ⟨x, hx, h3.symm⟩) hnd.1
        · exact .inr ⟨i, by omega, h2, h3⟩
theorem Inv2.done {l : Nat → ItD} {n : Nat} {A B C D : List ItD} {s : Int} (h : Inv2 l n n A B) (ga : Good s A) (gb : Good s B) (pc : C.Perm A) (pd : D.Perm B) (sc : Srt s C) (sd : Srt s D) : C = D := by
  have na : A.Nodup := nodup_of_map (idsNd_iff.1 ga.nd)
  have nb : B.Nodup := nodup_of_map (idsNd_iff.1 gb.nd)
  have hab : A.Perm B := (List.perm_ext_iff_of_nodup na nb).2 fun x => ⟨fun hx => by
    rcases h.left x hx with h1 | ⟨i, h1, h2, _⟩
    · exact h1
    · omega, fun hx => h.sub x hx⟩
  exact srt_unique (fun x hx y hy he => idsNd_eq ga.nd (pc.mem_iff.1 hx) (pc.mem_iff.1 hy) he) (pc.trans (hab.trans pd.symm)) sc sd
end Go.Proofs.Ytpjmmhpkiepbmaa
