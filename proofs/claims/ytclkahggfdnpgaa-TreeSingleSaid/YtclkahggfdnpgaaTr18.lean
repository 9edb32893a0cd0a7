/- Equal rows of numbers; a program too large. -/
import Derived.Test.YtclkahggfdnpgaaTr17
import Derived.Test.YtclkahggfdnpgaaMk18
import Derived.Deep.RegionHeldLaw
set_option linter.unusedVariables false
set_option linter.unusedSimpArgs false
namespace Go.Proofs.Ytclkahggfdnpgaa
open Go.RowKit
def IntsAt (w : World) (a : Option Addr) (n : Nat) (L : List Int) : Prop := L.length = n ∧ RowsAt w a n 1 (fun i => [iv (L.getD i default)])
theorem IntsAt.fr {w w' : World} {a : Option Addr} {n : Nat} {L : List Int} (h : IntsAt w a n L) (f : Fr [] w w') : IntsAt w' a n L := ⟨h.1, h.2.fr f⟩
theorem own_intsAt {w : World} {base : Nat} {v : Value} {L : List Int} (h : w.ownsRow base 3 1 v L.length (L.map iv)) : ∃ a c, v = .slice a L.length c ∧ (∀ g o, a = some ⟨g, o, none⟩ → base ≤ g) ∧ IntsAt w a L.length L := by
  rcases h.2 with ⟨rfl, h0⟩ | ⟨g, cap, cur, rfl, hb, hg, hn, hcm, hcs, ht⟩
  · exact ⟨none, 0, by rw [h0], by simp, rfl, ⟨fun h1 => absurd h1 (by omega)⟩⟩
  · refine ⟨_, cap, rfl, fun g' o' he => by cases he; exact hb, rfl, ⟨fun h0 => ⟨g, 0, rfl, (Array.getElem?_eq_some_iff.1 hg).1, fun i hi j v hj => ?_⟩⟩⟩
    have hj0 : j = 0 := by
      have := (List.getElem?_eq_some_iff.1 hj).1
      simp at this
      exact this
    subst hj0
    simp only [List.getElem?_cons_zero, Option.some.injEq] at hj
    rw [cell_of_row w g _ _ _ _ hg, ← Array.getElem?_toList]
    have h2 : (L.map iv)[i]? = some (iv (L.getD i default)) := by rw [List.getElem?_map, getD_at L i hi]; rfl
    rw [← ht, List.getElem?_take, if_pos (by omega)] at h2
    rw [show 0 + i * 1 + 0 = i by omega, h2, hj]
theorem IntsP.at_ {L : List Int} {w : World} {e : Ending} {w' : World} (h : IntsP L w e w') : ∃ a c, e = .returned (.slice a L.length c) ∧ (∀ g o, a = some ⟨g, o, none⟩ → w.heap.size ≤ g) ∧ IntsAt w' a L.length L ∧ Fr [] w w' := by
  obtain ⟨v, rfl, ho, hF⟩ := h
  obtain ⟨a, c, rfl, hb, hI⟩ := own_intsAt ho
  exact ⟨a, c, rfl, hb, hI, hF⟩
set_option maxHeartbeats 4000000 in
theorem isame_any (a b : Option Addr) (n m c d : Nat) (L M : List Int) (w : World) (hn : n ≤ 100000) (hm : m ≤ 100000) (hL : IntsAt w a n L) (hM : IntsAt w b m M) :
    Calls Try.prog 47 #[.slice a n c, .slice b m d] w fun e w' => e = .returned (.bool (decide (L = M))) ∧ Fr [] w w' := by
  have hl1 := Lib.hid hL.1
  have hl2 := Lib.hid hM.1
  by_cases he : n = m
  · subst he
    have HL := Lib.hid hL
    have HM := Lib.hid hM
    clear hL hM
    go_enter Try.func47, Try.ntmps47
    go_wp2_with fail
    go_loopg [5] n (fun k i wr => ∃ j : Nat, k = n - j ∧ j ≤ n ∧ i = .int .i64 j ∧ L.take j = M.take j ∧ Fr [] w wr)
    case atStart => exact ⟨0, rfl, by omega, rfl, by simp, Fr.refl _ _⟩
    case round =>
      obtain ⟨j, rfl, hj, rfl, ht, hF⟩ := hrel
      have F := Lib.hid hF
      have TT := Lib.hid ht
      clear ht
      by_cases hjn : j < n
      · have hd : decide (j < n) = true := by rw [decide_eq_true_iff]; omega
        obtain ⟨b1, o1, rfl, hb1, hc1⟩ := (HL.out.fr hF).2.at_ (by omega)
        obtain ⟨b2, o2, rfl, hb2, hc2⟩ := (HM.out.fr hF).2.at_ (by omega)
        have k1 := hc1 j hjn 0 _ rfl
        have k2 := hc2 j hjn 0 _ rfl
        have T1 := Lib.hid (take_succD L j (by rw [hl1.out]; exact hjn))
        have T2 := Lib.hid (take_succD M j (by rw [hl2.out]; exact hjn))
        generalize L.getD j default = x at k1 T1
        generalize M.getD j default = y at k2 T2
        have x0 : wr.cell? ⟨b1, o1 + j, none⟩ = some (.int .i64 x) := by simpa [iv] using k1
        have y0 : wr.cell? ⟨b2, o2 + j, none⟩ = some (.int .i64 y) := by simpa [iv] using k2
        clear k1 k2 hc1 hc2 hF
        go_wp2_with fail
        by_cases h1 : x = y
        · subst h1
          go_region_held_law (fun w' => w'.cell? ⟨b1, o1 + j, none⟩ = some (.int .i64 x) ∧ w'.cell? ⟨b2, o2 + j, none⟩ = some (.int .i64 x)) (go_keep) (fail)
          all_goals
            go_wp2_with fail
            go_roundg (n - (j + 1))
            case measure => omega
            case rel => exact ⟨j + 1, rfl, by omega, rfl, by rw [T1.out, T2.out, TT.out], F.out.drewN 1⟩
        · skip
          have e3 : (x != y) = true := by simpa using h1
          have hLM : ¬ L = M := by
            intro h
            subst h
            have := T1.out.symm.trans T2.out
            simp at this
            exact h1 this
          have HLM := Lib.hid hLM
          clear hLM
          go_region_held_law (fun w' => w'.cell? ⟨b1, o1 + j, none⟩ = some (.int .i64 x) ∧ w'.cell? ⟨b2, o2 + j, none⟩ = some (.int .i64 y)) (go_keep) (fail)
          all_goals
            go_wp2_with fail
            go_ret
            exact ⟨ret_bool (decide_eq_false HLM.out).symm, F.out.drewN 1⟩
      · have hd : decide (j < n) = false := by rw [decide_eq_false_iff_not]; omega
        have hLM : L = M := by
          have ht := TT.out
          rw [List.take_of_length_le (by rw [hl1.out]; omega), List.take_of_length_le (by rw [hl2.out]; omega)] at ht
          exact ht
        have HLM := Lib.hid hLM
        clear hLM hF
        go_wp2_with fail
        go_ret
        exact ⟨ret_bool (decide_eq_true HLM.out).symm, F.out⟩
  · have hd : ((n : Int) != (m : Int)) = true := by simpa using (by omega : ¬ (n : Int) = m)
    have hLM : ¬ L = M := fun h => he (by rw [← hl1.out, ← hl2.out, h])
    have HLM := Lib.hid hLM
    clear hL hM hLM
    go_enter Try.func47, Try.ntmps47
    go_wp2_with fail
    go_ret
    exact ⟨ret_bool (decide_eq_false HLM.out).symm, Fr.refl _ _⟩
/-- A program as it is handed over, however large. -/
structure ProgIn (w : World) (p : ProgD) : Prop where
  rows : RowsAt w p.pa p.Fs.length 2 (fun i => (p.Fs.getD i default).cells)
  flats : ∀ f ∈ p.Fs, FlatIn w f
  calls : RowsAt w p.ca p.Cs.length 4 (fun i => (p.Cs.getD i default).cells)
  max : p.Fs.length ≤ 9223372036854775807
theorem ProgIn.fr {w w' : World} {p : ProgD} (h : ProgIn w p) (f : Fr [] w w') : ProgIn w' p := ⟨h.rows.fr f, fun g hg => (h.flats g hg).fr f, h.calls.fr f, h.max⟩
def bigF (f : FlatD) : Bool := decide (f.en > 10) || decide (f.tn > 60)
def bigP (p : ProgD) : Bool := p.Fs.any bigF || (decide (p.Fs.length > 9) || decide (p.Cs.length > 20))
theorem ProgIn.at_ {w : World} {p : ProgD} (h : ProgIn w p) (hb : bigP p = false) : ProgAt w p ∧ ∀ f ∈ p.Fs, f.en ≤ 10 := by
  unfold bigP at hb
  simp only [Bool.or_eq_false_iff, List.any_eq_false, decide_eq_false_iff_not] at hb
  obtain ⟨h1, h2, h3⟩ := hb
  have hf : ∀ f ∈ p.Fs, f.en ≤ 10 ∧ f.tn ≤ 60 := by
    intro f hf
    have := h1 f hf
    unfold bigF at this
    simp only [Bool.or_eq_true, decide_eq_true_iff] at this
    omega
  exact ⟨⟨h.rows, fun f hm => (h.flats f hm).at (by have := hf f hm; omega) (by have := hf f hm; omega), h.calls, by omega, by omega⟩, fun f hm => (hf f hm).1⟩
end Go.Proofs.Ytclkahggfdnpgaa
