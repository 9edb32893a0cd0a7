/- The document's answers at fixed inputs. (Under way.) -/
import Derived.Test.YtclkahggfdnpgaaMk14
set_option linter.unusedVariables false
set_option linter.unusedSimpArgs false
namespace Go.Proofs.Ytclkahggfdnpgaa
open Go.RowKit
/-- The graph that awake asks about. -/
def awE : List EvD := [⟨⟨#[97]⟩, ⟨#[]⟩, ⟨#[]⟩, true, true, -1⟩, ⟨⟨#[98]⟩, ⟨#[]⟩, ⟨#[]⟩, true, false, -1⟩]
def awT : List TieD := [⟨1, 0, 1, 1⟩, ⟨2, 1, 0, 1⟩, ⟨5, 0, 1, 0⟩]
def awF (a b : Nat) : FlatD := ⟨some ⟨a, 0, none⟩, 2, 2, some ⟨b, 0, none⟩, 3, 3, awE, awT⟩
def awC : List Value := [.string ⟨#[97]⟩, .string ⟨#[]⟩, .string ⟨#[]⟩, .bool true, .bool true, .int .i64 (-1), .string ⟨#[98]⟩, .string ⟨#[]⟩, .string ⟨#[]⟩, .bool true, .bool false, .int .i64 (-1)]
def awD : List Value := [.int .i64 1, .int .i64 0, .int .i64 1, .int .i64 1, .int .i64 2, .int .i64 1, .int .i64 0, .int .i64 1, .int .i64 5, .int .i64 0, .int .i64 1, .int .i64 0]
theorem rows_lit {w : World} {g n k : Nat} {C : List Value} {t : TypeId} {D : Nat → List Value} (h : Row w g C t) (hD : ∀ i, i < n → ∀ j v, (D i)[j]? = some v → C[i * k + j]? = some v) : RowsAt w (some ⟨g, 0, none⟩) n k D :=
  ⟨fun _ => ⟨g, 0, rfl, h.lt, fun i hi j v hj => by rw [h.cell, Nat.zero_add]; exact hD i hi j v hj⟩⟩
theorem aw_flat {w : World} {a b : Nat} (h1 : Row w a awC 104) (h2 : Row w b awD 57) : FlatAt w (awF a b) := by
  refine ⟨⟨rfl, rows_lit h1 ?_⟩, ⟨rfl, rows_lit h2 ?_⟩, by show 2 ≤ 100000; omega, by show 3 ≤ 100000; omega⟩
  · intro i hi j v hj
    have hjl : j < 6 := (List.getElem?_eq_some_iff.1 hj).1
    have hi2 : i < 2 := hi
    match i, hi2, j, hjl, hj with
    | 0, _, 0, _, hj | 0, _, 1, _, hj | 0, _, 2, _, hj | 0, _, 3, _, hj | 0, _, 4, _, hj | 0, _, 5, _, hj => exact hj
    | 1, _, 0, _, hj | 1, _, 1, _, hj | 1, _, 2, _, hj | 1, _, 3, _, hj | 1, _, 4, _, hj | 1, _, 5, _, hj => exact hj
  · intro i hi j v hj
    have hjl : j < 4 := (List.getElem?_eq_some_iff.1 hj).1
    have hi2 : i < 3 := hi
    match i, hi2, j, hjl, hj with
    | 0, _, 0, _, hj | 0, _, 1, _, hj | 0, _, 2, _, hj | 0, _, 3, _, hj => exact hj
    | 1, _, 0, _, hj | 1, _, 1, _, hj | 1, _, 2, _, hj | 1, _, 3, _, hj => exact hj
    | 2, _, 0, _, hj | 2, _, 1, _, hj | 2, _, 2, _, hj | 2, _, 3, _, hj => exact hj
def aw0 : List MarkD := [⟨true, 0, -1⟩, ⟨true, -1, -1⟩]
def aw1 : List MarkD := [⟨true, 1, -1⟩, ⟨true, -1, -1⟩]
def aw2 : List MarkD := [⟨true, 1, 1⟩, ⟨true, 0, -1⟩]
def aw3 : List MarkD := [⟨true, 2, 0⟩, ⟨true, 1, -1⟩]
theorem aw_start : awE.map startM = aw0 := by decide
theorem aw_off (a b : Nat) : enabB (awF a b) aw0 1 = false := by kernel_rfl
theorem aw_do0 (a b : Nat) : doE (awF a b) aw0 1 = 11 := by kernel_rfl
theorem aw_tick0 (a b : Nat) : tickE (awF a b) aw0 = 0 := by kernel_rfl
theorem aw_m1 : aw0.map tickM = aw1 := by decide
theorem aw_on (a b : Nat) : enabB (awF a b) aw1 1 = true := by kernel_rfl
theorem aw_do1 (a b : Nat) : doE (awF a b) aw1 1 = 0 := by kernel_rfl
theorem aw_m2 (a b : Nat) : doM (awF a b) aw1 1 = aw2 := by kernel_rfl
theorem aw_tick2 (a b : Nat) : tickE (awF a b) aw2 = 0 := by kernel_rfl
theorem aw_m3 : aw2.map tickM = aw3 := by decide
theorem aw_tick3 (a b : Nat) : tickE (awF a b) aw3 = 13 := by kernel_rfl
theorem aw_all (a b : Nat) : allL (awF a b) aw3 2 = [0] := by kernel_rfl
theorem aw_slack : slackI 2 aw3 = 0 := by kernel_rfl
theorem aw_slack0 : slackI 2 [] = -1 := by kernel_rfl
theorem aw_acc1 : accB 2 aw1 = true := by kernel_rfl
theorem aw_acc3 : accB 2 aw3 = false := by kernel_rfl
theorem aw_fit0 : fitsB 2 aw0 = true := by kernel_rfl
theorem aw_fitn : fitsB 2 [] = false := by kernel_rfl
end Go.Proofs.Ytclkahggfdnpgaa
