/- The reference's frames and scans. -/
import Derived.Test.YtghahdddjpofdaaLScan


set_option linter.unusedVariables false
set_option linter.unusedSimpArgs false
namespace Go.Proofs.Ytghahdddjpofdaa
open Go.RowKit

set_option maxHeartbeats 400000 in
theorem rframe_bad (s : ByteArray) (w : World) (h : s.size = 0 ∨ 400 < s.size) :
    Calls Try.prog 9 #[.string s] w (Told ⟨#[]⟩ 3 w) := by
  go_enter Try.func9, Try.ntmps9
  rcases h with h | h
  · have hd : decide ((s.size : Int) < 1) = true := by rw [decide_eq_true_iff]; omega
    go_wp2
    go_ret2
    exact ⟨rfl, Fr.refl _ _⟩
  · have hd : decide ((s.size : Int) < 1) = false := by rw [decide_eq_false_iff_not]; omega
    have hd2 : decide ((s.size : Int) > 400) = true := by rw [decide_eq_true_iff]; omega
    go_wp2
    go_ret2
    exact ⟨rfl, Fr.refl _ _⟩
def head7 (a n : Nat) : List UInt8 := [1] ++ be2 a ++ be4 n
set_option maxHeartbeats 400000 in
theorem rframe_good (s : ByteArray) (w : World) (h0 : 1 ≤ s.size) (h : s.size ≤ 400) :
    Calls Try.prog 9 #[.string s] w (Told ⟨(frameL s.data.toList).toArray⟩ 0 w) := by
  have hd : decide ((s.size : Int) < 1) = false := by rw [decide_eq_false_iff_not]; omega
  have hd2 : decide ((s.size : Int) > 400) = false := by rw [decide_eq_false_iff_not]; omega
  have hk := sumL_lt s.data.toList
  have q1 : Int.tdiv (s.size : Int) 256 = ((s.size / 256 : Nat) : Int) := by rw [Int.tdiv_eq_ediv_of_nonneg (by omega)]; omega
  have q2 : Int.tmod (s.size : Int) 256 = ((s.size % 256 : Nat) : Int) := by rw [Int.tmod_eq_emod_of_nonneg (by omega)]; omega
  go_enter Try.func9, Try.ntmps9
  go_wp2_with fail
  refine (rsum_any s w (by omega)).mono ?_
  rintro e w1 ⟨rfl, rfl⟩
  generalize hsum : sumL s.data.toList = n at hk
  have hcells : (#[.int .u8 1, .int .u8 ((s.size : Int) / 256), .int .u8 ((s.size : Int) % 256), .int .u8 ((n : Int) / 16777216), .int .u8 ((n : Int) / 65536 % 256), .int .u8 ((n : Int) / 256 % 256), .int .u8 ((n : Int) % 256)] : Array Value) = (bcells (head7 s.size n)).toArray := by
    have c1 := cell_u8 (s.size / 256)
    have c2 := cell_u8 s.size
    have c3 := cell_u8 (n / 16777216)
    have c4 := cell_u8 (n / 65536)
    have c5 := cell_u8 (n / 256)
    have c6 := cell_u8 n
    simp only [bcells, head7, be2, be4, List.cons_append, List.nil_append, List.map_cons, List.map_nil, c1, c2, c3, c4, c5, c6]
    have e1 : ((s.size / 256 : Nat) : Int) % 256 = (s.size : Int) / 256 := by omega
    have e3 : ((n / 16777216 : Nat) : Int) % 256 = (n : Int) / 16777216 := by omega
    rw [e1, e3]
    rfl
  have hg : ∀ j v, (bcells (head7 s.size n))[j]? = some v → (w.alloc (.cells #[.int .u8 1, .int .u8 ((s.size : Int) / 256), .int .u8 ((s.size : Int) % 256), .int .u8 ((n : Int) / 16777216), .int .u8 ((n : Int) / 65536 % 256), .int .u8 ((n : Int) / 256 % 256), .int .u8 ((n : Int) % 256)] 5)).cell? ⟨w.heap.size, 0 + j, none⟩ = some v := fun j v hv => by
    rw [hcells, (Row.new w _ 5).cell, Nat.zero_add]; exact hv
  have hfr : (⟨(frameL s.data.toList).toArray⟩ : ByteArray) = ⟨(head7 s.size n).toArray⟩ ++ s ++ ⟨[1].toArray⟩ := by
    rw [← blist s, bapp, bapp]
    unfold frameL
    rw [hsum]
    rfl
  have HF := Lib.hid hfr
  have HG := Lib.hid hg
  have z1 : (⟨(head7 s.size n).toArray⟩ : ByteArray).size = 7 := rfl
  clear hcells hg hfr
  go_wp2_with ((with_reducible refine wpList_bytes_str rfl 34 9 5 (.tmp 35) rfl Try.underlying34 Try.underlying5 Try.underlying9 (head7 s.size n) w.heap.size 0 7 7 rfl HG.out ?_ ?_); exact rfl)
  generalize (⟨(head7 s.size n).toArray⟩ : ByteArray) = A at z1 HF ⊢
  have hq1 : ¬ 9223372036854775807 < 7 + s.size := by omega
  go_wp2_with fail
  go_ret2
  exact ⟨by rw [HF.out]; rfl, (Fr.refl [] w).alloc _⟩
theorem rframe_any (s : ByteArray) (w : World) (hs : s.size ≤ 140737488351232) :
    Calls Try.prog 9 #[.string s] w (Told (frameS s) (frameE s) w) := by
  unfold frameS frameE
  by_cases h : goodL s.data.toList
  · rw [if_pos h, if_pos h]; exact rframe_good s w h.1 h.2
  · rw [if_neg h, if_neg h]
    refine rframe_bad s w ?_
    by_cases h0 : s.size = 0
    · exact .inl h0
    · refine .inr ?_
      rcases Nat.lt_or_ge 400 s.size with h1 | h1
      · exact h1
      · exact absurd ⟨by show 1 ≤ s.size; omega, h1⟩ h
theorem ret_bool {a b : Bool} (h : a = b) : Ending.returned (.bool a) = Ending.returned (.bool b) := by rw [h]
/-- A slice of texts, any. -/
structure StrsAt (w : World) (a : Option Addr) (n : Nat) (L : List (List UInt8)) : Prop where
  len : L.length = n
  at_ : 0 < n → ∃ b o, a = some ⟨b, o, none⟩ ∧ b < w.heap.size ∧ ∀ j r, L[j]? = some r → w.cell? ⟨b, o + j, none⟩ = some (str r)
theorem StrsAt.of_own {w : World} {base : Nat} {a : Option Addr} {n c : Nat} {L : List (List UInt8)} (h : w.ownsRow base 9 1 (.slice a n c) L.length (L.map str)) : StrsAt w a n L := by
  rcases h.2 with ⟨hv, h0⟩ | ⟨g, cap, cur, hv, hb, hg, hn, hcm, hcs, ht⟩
  · cases hv
    exact ⟨h0, fun h => absurd h (by omega)⟩
  · cases hv
    refine ⟨rfl, fun h0 => ⟨g, 0, rfl, (Array.getElem?_eq_some_iff.1 hg).1, fun j r hj => ?_⟩⟩
    rw [cell_of_row w g _ _ _ _ hg]
    have hl : j < L.length := (List.getElem?_eq_some_iff.1 hj).1
    have h2 : (L.map str)[j]? = some (str r) := by rw [List.getElem?_map, hj]; rfl
    rw [← ht, List.getElem?_take, if_pos (by omega)] at h2
    rw [Nat.zero_add, ← Array.getElem?_toList]
    exact h2
theorem StrsAt.fr {w w' : World} {a : Option Addr} {n : Nat} {L : List (List UInt8)} (h : StrsAt w a n L) (f : Fr [] w w') : StrsAt w' a n L := by
  refine ⟨h.len, fun h0 => ?_⟩
  obtain ⟨b, o, rfl, hb, hc⟩ := h.at_ h0
  refine ⟨b, o, rfl, Nat.lt_of_lt_of_le hb f.size, fun j r hj => ?_⟩
  rw [World.cell?_of_block (f.block b hb (by simp))]
  exact hc j r hj
set_option maxHeartbeats 400000 in
theorem same_any (a b : Option Addr) (n m c d : Nat) (L M : List (List UInt8)) (w : World) (hn : n ≤ maxLen) (hm : m ≤ maxLen) (hL : StrsAt w a n L) (hM : StrsAt w b m M) :
    Calls Try.prog 14 #[.slice a n c, .slice b m d] w fun e w' => e = .returned (.bool (decide (L = M))) ∧ Fr [] w w' := by
  have hl1 := hL.len
  have hl2 := hM.len
  go_enter Try.func14, Try.ntmps14
  by_cases he : n = m
  · subst he
    have hd : decide (n = n) = true := by simp
    have HL := Lib.hid hL
    have HM := Lib.hid hM
    clear hL hM
    go_wp2_with fail
    go_loopg [5] n (fun k i wr => ∃ j : Nat, k = n - j ∧ j ≤ n ∧ i = .int .i64 j ∧ L.take j = M.take j ∧ Fr [] w wr)
    case atStart => exact ⟨0, rfl, by omega, rfl, by simp, Fr.refl _ _⟩
    case round =>
      obtain ⟨j, rfl, hj, rfl, ht, hF⟩ := hrel
      by_cases hjn : j < n
      · have hd : decide (j < n) = true := by rw [decide_eq_true_iff]; omega
        obtain ⟨b1, o1, rfl, hb1, hc1⟩ := HL.out.at_ (by omega)
        obtain ⟨b2, o2, rfl, hb2, hc2⟩ := HM.out.at_ (by omega)
        have g1 : L[j]? = some (L[j]'(by omega)) := List.getElem?_eq_getElem (by omega)
        have g2 : M[j]? = some (M[j]'(by omega)) := List.getElem?_eq_getElem (by omega)
        have t1 : L.take (j + 1) = L.take j ++ [L[j]'(by omega)] := by rw [List.take_succ_eq_append_getElem (by omega)]
        have t2 : M.take (j + 1) = M.take j ++ [M[j]'(by omega)] := by rw [List.take_succ_eq_append_getElem (by omega)]
        have k1 := hc1 j _ g1
        have k2 := hc2 j _ g2
        rw [← World.cell?_of_block (w := w) (w' := wr) (a := ⟨b1, o1 + j, none⟩) (hF.block b1 hb1 (by simp))] at k1
        rw [← World.cell?_of_block (w := w) (w' := wr) (a := ⟨b2, o2 + j, none⟩) (hF.block b2 hb2 (by simp))] at k2
        have T1 := Lib.hid t1
        have T2 := Lib.hid t2
        have T := Lib.hid ht
        have F := Lib.hid hF
        have G1 := Lib.hid g1
        have G2 := Lib.hid g2
        clear hc1 hc2 t1 t2 ht hF g1 g2
        generalize L[j]'(by omega) = x at k1 T1 G1
        generalize M[j]'(by omega) = y at k2 T2 G2
        unfold str at k1 k2
        go_wp2_with fail
        go_still (by kernel_rfl)
        have hn' : n ≤ 9223372036854775807 := by unfold maxLen at hn; exact hn
        go_wp2_with fail
        · rename_i hxy
          have hxy : ¬ x = y := by simpa using hxy
          have hLM : ¬ L = M := by
            rintro rfl
            have := G1.out.symm.trans G2.out
            injection this with this
            exact hxy this
          go_ret
          exact ⟨ret_bool (decide_eq_false hLM).symm, F.out.drewN 1⟩
        · rename_i hxy
          have hxy : x = y := by simpa using hxy
          go_roundg (n - (j + 1))
          case measure => omega
          case rel => exact ⟨j + 1, rfl, by omega, rfl, by rw [T1.out, T2.out, T.out, hxy], F.out.drewN 1⟩
      · have hd : decide (j < n) = false := by rw [decide_eq_false_iff_not]; omega
        have hLM : L = M := by
          rw [List.take_of_length_le (by omega), List.take_of_length_le (by omega)] at ht
          exact ht
        go_wp2_with fail
        go_ret
        exact ⟨ret_bool (decide_eq_true hLM).symm, hF⟩
  · have hd : ((n : Int) != (m : Int)) = true := by simpa using (by omega : ¬ (n : Int) = m)
    have hLM : ¬ L = M := fun h => he (by rw [← hl1, ← hl2, h])
    clear hL hM
    go_wp2_with fail
    go_ret
    exact ⟨ret_bool (decide_eq_false hLM).symm, Fr.refl _ _⟩
end Go.Proofs.Ytghahdddjpofdaa
