/- Do and Tick, whatever is asked. -/
import Derived.Test.YtclkahggfdnpgaaMk12
set_option linter.unusedVariables false
set_option linter.unusedSimpArgs false
namespace Go.Proofs.Ytclkahggfdnpgaa
open Go.RowKit
/-- Why an event can't be done (0: it can). -/
def doE (f : FlatD) (M : List MarkD) (i : Int) : Int :=
  if fitsB f.en M = false then 1 else if i < 0 ∨ (M.length : Int) ≤ i then 3 else if enabB f M i = false then 11 else 0
def tickE (f : FlatD) (M : List MarkD) : Int := if slackI f.en M = -1 then 1 else if slackI f.en M = 0 then 13 else 0
/-- A marking, or why there is none. -/
def NextP (N : List MarkD) (E : Int) (w : World) (e : Ending) (w' : World) : Prop :=
  ∃ a c, e = .returned (.tuple #[.slice a (if E = 0 then N.length else 0) c, .int .i64 E]) ∧ MarksAt w' a (if E = 0 then N.length else 0) (if E = 0 then N else []) ∧ Fr [] w w'
theorem marks_nil (w : World) : MarksAt w none 0 [] := ⟨rfl, ⟨fun h => absurd h (by omega)⟩⟩
theorem next_err {N : List MarkD} {E : Int} {w : World} (hE : E ≠ 0) {e : Ending} {w' : World} (he : e = .returned (.tuple #[.slice none 0 0, .int .i64 E])) (hF : Fr [] w w') : NextP N E w e w' :=
  ⟨none, 0, by rw [if_neg hE]; exact he, by rw [if_neg hE, if_neg hE]; exact marks_nil w', hF⟩
theorem next_ok {N : List MarkD} {n : Nat} {w : World} {e : Ending} {w' : World} (hN : N.length = n) (h : NewM N n w e w') : NextP N 0 w e w' := by
  obtain ⟨g, he, hg, hR, hF⟩ := h
  refine ⟨some ⟨g, 0, none⟩, n, by rw [if_pos rfl, hN]; exact he, ?_, hF⟩
  rw [if_pos rfl, if_pos rfl, hN]
  exact marks_of_row (C := []) (by simpa using hR) n hN
theorem doM_length (f : FlatD) (M : List MarkD) (k : Nat) : (doM f M k).length = M.length := by
  unfold doM
  rw [doK_length, doK_length, doK_length]
  unfold doneM
  rw [List.length_set]
theorem do_any (f : FlatD) (a : Option Addr) (n c : Nat) (M : List MarkD) (i : Int) (w : World) (hf : FlatAt w f) (h : MarksAt w a n M) (hn : n ≤ 100000) :
    Calls Try.prog 29 #[f.val, .slice a n c, .int .i64 i] w (NextP (doM f M i.toNat) (doE f M i) w) := by
  have hl := h.1
  unfold doE
  by_cases h1 : fitsB f.en M = false
  · rw [if_pos h1]
    exact (do_fit f a n c M i w hf h hn h1).mono fun e w' he => next_err (by decide) he.1 he.2
  · have h1' : fitsB f.en M = true := by simpa using h1
    rw [if_neg h1]
    by_cases h2 : i < 0 ∨ (M.length : Int) ≤ i
    · rw [if_pos h2]
      exact (do_range f a n c M i w hf h hn h1' (by omega)).mono fun e w' he => next_err (by decide) he.1 he.2
    · rw [if_neg h2]
      obtain ⟨k, rfl⟩ := Int.eq_ofNat_of_zero_le (by omega : 0 ≤ i)
      have hk : k < n := by omega
      by_cases h3 : enabB f M k = false
      · rw [if_pos h3]
        exact (do_off f a n c M k w hf h hn h1' hk h3).mono fun e w' he => next_err (by decide) he.1 he.2
      · rw [if_neg h3]
        exact (do_ok f a n c M k w hf h hn h1' hk (by simpa using h3)).mono fun e w' he => next_ok (by rw [Int.toNat_natCast, doM_length, hl]) he
theorem tick_any (f : FlatD) (a : Option Addr) (n c : Nat) (M : List MarkD) (w : World) (h : MarksAt w a n M) (hn : n ≤ 100000) :
    Calls Try.prog 31 #[f.val, .slice a n c] w (NextP (M.map tickM) (tickE f M) w) := by
  have hl := h.1
  unfold tickE
  by_cases h1 : slackI f.en M = -1
  · rw [if_pos h1]
    exact (tick_no1 f a n c M w h hn h1).mono fun e w' he => next_err (by decide) he.1 he.2
  · rw [if_neg h1]
    by_cases h2 : slackI f.en M = 0
    · rw [if_pos h2]
      exact (tick_no0 f a n c M w h hn h2).mono fun e w' he => next_err (by decide) he.1 he.2
    · rw [if_neg h2]
      exact (tick_ok f a n c M w h hn h1 h2).mono fun e w' he => next_ok (by rw [List.length_map, hl]) he
end Go.Proofs.Ytclkahggfdnpgaa
