/- Records and frames: the plain laws. -/
import Derived.Test.YtghahdddjpofdaaLJoin

set_option linter.unusedVariables false
set_option linter.unusedSimpArgs false
namespace Go.Proofs.Ytghahdddjpofdaa
open Go.RowKit

theorem frameL_cons (r t : List UInt8) : frameL r ++ t = 1 :: UInt8.ofNat (r.length / 256) :: UInt8.ofNat r.length :: (be4 (sumL r) ++ (r ++ (1 :: t))) := by
  simp [frameL, be2]
theorem recN_frame (r t : List UInt8) (h : r.length ≤ 400) : recN (frameL r ++ t) = r.length := by
  rw [frameL_cons]
  unfold recN
  show (UInt8.ofNat (r.length / 256)).toNat * 256 + (UInt8.ofNat r.length).toNat = r.length
  rw [UInt8.toNat_ofNat', UInt8.toNat_ofNat']
  have : (2 : Nat) ^ 8 = 256 := rfl
  omega
theorem recL_frame (r t : List UInt8) (h : r.length ≤ 400) : recL (frameL r ++ t) = r := by
  unfold recL
  rw [recN_frame r t h, frameL_cons]
  show ((r ++ (1 :: t)).take r.length) = r
  rw [List.take_left]
theorem oneB_frame (r t : List UInt8) (h : goodL r) : oneB (frameL r ++ t) = true := by
  have h1 := h.1
  have h4 := h.2
  have hl := frameL_length r
  unfold oneB hasP
  rw [recN_frame r t h4, recL_frame r t h4, List.take_left, List.length_append, hl]
  rw [decide_eq_true (show 9 ≤ r.length + 8 + t.length by omega), decide_eq_true h4, decide_eq_true (show r.length + 8 ≤ r.length + 8 + t.length by omega), decide_eq_true h1]
  rw [frameL_cons]
  simp
theorem scanL_frame (r t : List UInt8) (h : goodL r) : scanL (frameL r ++ t) = r :: scanL t := by
  rw [scanL_yes (oneB_frame r t h), recL_frame r t h.2, ← frameL_length r, List.drop_left]
theorem allGood_cons {r : List UInt8} {L : List (List UInt8)} : allGood (r :: L) ↔ goodL r ∧ allGood L := by simp [allGood]
theorem scanL_join (L : List (List UInt8)) (t : List UInt8) (h : allGood L) : scanL (joinL L ++ t) = L ++ scanL t := by
  induction L with
  | nil => rfl
  | cons r L ih =>
    obtain ⟨h1, h2⟩ := allGood_cons.1 h
    rw [joinL_cons, List.append_assoc, scanL_frame r _ h1, ih h2]
    rfl
theorem oneB_take {s : List UInt8} (h : oneB s = true) : s.take (recN s + 8) = frameL (recL s) := by
  obtain ⟨h1, h2, h3, h4, h5⟩ := oneB_len h
  unfold hasP at h5
  rw [frameL_length, recL_len h] at h5
  exact eq_of_beq h5
theorem oneB_good {s : List UInt8} (h : oneB s = true) : goodL (recL s) ∧ s = frameL (recL s) ++ s.drop ((recL s).length + 8) := by
  have h6 := oneB_take h
  obtain ⟨h1, h2, h3, h4, h5⟩ := oneB_len h
  have hr := recL_len h
  refine ⟨⟨by omega, by omega⟩, ?_⟩
  rw [← h6, hr, List.take_append_drop]
theorem scanL_back (k : Nat) : ∀ s : List UInt8, s.length ≤ k → allGood (scanL s) ∧ s = joinL (scanL s) ++ s.drop (lenA (scanL s)) := by
  induction k with
  | zero =>
    intro s hs
    have : s = [] := List.eq_nil_of_length_eq_zero (by omega)
    subst this
    rw [scanL_no (by rfl)]
    exact ⟨by simp [allGood], rfl⟩
  | succ k ih =>
    intro s hs
    by_cases h : oneB s = true
    · obtain ⟨hg, he⟩ := oneB_good h
      have hl := (oneB_len h).1
      rw [scanL_yes h]
      obtain ⟨i1, i2⟩ := ih (s.drop ((recL s).length + 8)) (by rw [List.length_drop]; omega)
      refine ⟨allGood_cons.2 ⟨hg, i1⟩, ?_⟩
      rw [joinL_cons, List.append_assoc]
      have e1 : lenA (recL s :: scanL (s.drop ((recL s).length + 8))) = ((recL s).length + 8) + lenA (scanL (s.drop ((recL s).length + 8))) := by simp [lenA]
      have e2 : s.drop ((recL s).length + 8 + lenA (scanL (s.drop ((recL s).length + 8)))) = (s.drop ((recL s).length + 8)).drop (lenA (scanL (s.drop ((recL s).length + 8)))) := by rw [List.drop_drop]
      rw [e1, e2, ← i2]
      exact he
    · rw [scanL_no (by simpa using h)]
      exact ⟨by simp [allGood], by simp [joinL, lenA]⟩
theorem scanL_good (s : List UInt8) : allGood (scanL s) := (scanL_back _ s (Nat.le_refl _)).1
theorem scanL_le (s : List UInt8) : lenA (scanL s) ≤ s.length := by
  have h := (scanL_back _ s (Nat.le_refl _)).2
  have h2 := congrArg List.length h
  rw [List.length_append, joinL_length] at h2
  omega
theorem scanL_take (s : List UInt8) : s.take (lenA (scanL s)) = joinL (scanL s) := by
  have h := (scanL_back _ s (Nat.le_refl _)).2
  rw [← joinL_length (scanL s)] at h ⊢
  generalize s.drop (joinL (scanL s)).length = t at h
  generalize joinL (scanL s) = j at h ⊢
  rw [h, List.take_left]
/-- A record's frame ends in a mark. -/
theorem oneB_end {s : List UInt8} (h : oneB s = true) : s[recN s + 7]? = some 1 := by
  have h6 := oneB_take h
  have hr := recL_len h
  have h7 : (s.take (recN s + 8))[recN s + 7]? = some 1 := by
    rw [h6, show frameL (recL s) = ([1] ++ be2 (recL s).length ++ be4 (sumL (recL s)) ++ recL s) ++ [1] from rfl]
    rw [List.getElem?_append_right (by simp [be2, be4]; omega)]
    simp [be2, be4, hr]
  rw [List.getElem?_take, if_pos (by omega)] at h7
  exact h7
theorem oneB_zeros (k : Nat) : oneB (List.replicate k 0) = false := by
  cases hb : oneB (List.replicate k 0) with
  | false => rfl
  | true =>
    have h := oneB_end hb
    rw [List.getElem?_replicate] at h
    split at h <;> simp at h
theorem scanL_zeros (L : List (List UInt8)) (k : Nat) (h : allGood L) : scanL (joinL L ++ List.replicate k 0) = L := by
  rw [scanL_join L _ h, scanL_no (oneB_zeros k), List.append_nil]
/-- A frame cut off is none. -/
theorem oneB_torn (r : List UInt8) (k m : Nat) (hg : goodL r) (hk : k < (frameL r).length) : oneB ((frameL r).take k ++ List.replicate m 0) = false := by
  cases hb : oneB ((frameL r).take k ++ List.replicate m 0) with
  | false => rfl
  | true =>
    have hend := oneB_end hb
    obtain ⟨h9, h4, h8, h1, h5⟩ := oneB_len hb
    have hl := frameL_length r
    generalize hn : recN ((frameL r).take k ++ List.replicate m 0) = n at *
    have htl : ((frameL r).take k).length = k := by rw [List.length_take]; omega
    have hlow : n + 7 < k := by
      rcases Nat.lt_or_ge (n + 7) k with h | h
      · exact h
      · rw [List.getElem?_append_right (by omega), List.getElem?_replicate] at hend
        split at hend <;> simp at hend
    have hk3 : 3 ≤ k := by omega
    have hrn : n = r.length := by
      rw [← hn, ← recN_frame r [] hg.2]
      unfold recN
      have e : ∀ i, i < 3 → ((frameL r).take k ++ List.replicate m 0).getD i 0 = (frameL r ++ []).getD i 0 := by
        intro i hi
        rw [List.getD_eq_getElem?_getD, List.getD_eq_getElem?_getD, List.getElem?_append_left (by omega), List.getElem?_take, if_pos (by omega), List.append_nil]
      rw [e 1 (by omega), e 2 (by omega)]
    omega
theorem scanL_torn (L : List (List UInt8)) (r : List UInt8) (k m : Nat) (h : allGood L) (hg : goodL r) (hk : k < (frameL r).length) : scanL (joinL L ++ ((frameL r).take k ++ List.replicate m 0)) = L := by
  rw [scanL_join L _ h, scanL_no (oneB_torn r k m hg hk), List.append_nil]
end Go.Proofs.Ytghahdddjpofdaa
