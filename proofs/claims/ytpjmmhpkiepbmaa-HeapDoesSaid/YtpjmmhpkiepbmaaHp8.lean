/- The first item; a weight. -/
import Derived.Test.YtpjmmhpkiepbmaaHp7
set_option linter.unusedVariables false
set_option linter.unusedSimpArgs false
namespace Go.Proofs.Ytpjmmhpkiepbmaa
open Go.RowKit
theorem agg32 (w : World) : (isAgg 32).run Try.prog w = .ok true w := by kernel_rfl
theorem size32 : (Try.prog.info? 32).map (·.size) = some 3 := by kernel_rfl
theorem results_cell2 {fn : Func} {p u : Tmp} {ty : TypeId} (h : fn.results = #[.cell p ty, .tmp u]) (tmps : Array Value) (P : Program) (w : World) {g : Nat} {cs : List Value} (hp : tmps.getD p undef = .pointer (some ⟨g, 0, none⟩))
    (hagg : ∀ w, (isAgg ty).run P w = .ok true w) (hi : (P.info? ty).map (·.size) = some cs.length) (hc : ∀ j v, cs[j]? = some v → w.cell? ⟨g, 0 + j, none⟩ = some v) : (results fn tmps).run P w = .ok (.tuple #[.agg cs.toArray, tmps.getD u undef]) w := by
  have hl := run_loadVar_at P w ty g 0 cs hagg hc hi
  have hp' : tmps[p]?.getD undef = .pointer (some ⟨g, 0, none⟩) := by rw [← Array.getD_eq_getD_getElem?]; exact hp
  simp only [results, h]
  simp [Sem.run_bind, Result.andThen, hp', asAddr, hl]
theorem ItD.default_cells : (default : ItD).cells = [.int .i64 0, .int .i64 0, .int .i64 0] := rfl
theorem ItD.val_cells (x : ItD) : x.val = .agg x.cells.toArray := rfl
theorem peek_any (E : ElemOf Try.prog 3 Int) (b m base n : Nat) (step : Int) (L : List ItD) (v : Value) (w : World) (h : HpAt E w b m base n step L v) (hl : L.length ≤ 1000) :
    Calls Try.prog 16 #[.pointer (some ⟨b, 0, none⟩)] w fun e w' => e = .returned (.tuple #[(L.getD 0 default).val, .bool (decide (0 < L.length))]) ∧ Fr [] w w' := by
  by_cases h0 : 0 < L.length
  · obtain ⟨g, cap, C, rfl, hgb, _, _, _, hR⟩ := own_row h.row h0
    have hbw : b < w.heap.size := h.head.lt
    have hgw : g < w.heap.size := hR.lt
    have hf := (Fr.refl [] w).alloc (.cells #[.int .i64 0, .int .i64 0, .int .i64 0] 32)
    have c1 : (w.alloc (.cells #[.int .i64 0, .int .i64 0, .int .i64 0] 32)).cell? ⟨b, 1, none⟩ = some (.slice (some ⟨g, 0, none⟩) L.length cap) := cell_fr (h.head.cell 1) hf
    have a0 : (w.alloc (.cells #[.int .i64 0, .int .i64 0, .int .i64 0] 32)).cell? ⟨g, 0, none⟩ = some (.int .i64 (L.getD 0 default).id) := cell_fr (rowI_at hR h0 0 (by omega)) hf
    have a1 : (w.alloc (.cells #[.int .i64 0, .int .i64 0, .int .i64 0] 32)).cell? ⟨g, 1, none⟩ = some (.int .i64 (L.getD 0 default).base) := by have := cell_fr (rowI_at hR h0 1 (by omega)) hf; simpa using this
    have a2 : (w.alloc (.cells #[.int .i64 0, .int .i64 0, .int .i64 0] 32)).cell? ⟨g, 2, none⟩ = some (.int .i64 (L.getD 0 default).since) := by have := cell_fr (rowI_at hR h0 2 (by omega)) hf; simpa using this
    have de : ((L.length : Int) == 0) = false := by rw [beq_eq_false_iff_ne]; omega
    have dl : decide (0 < L.length) = true := decide_eq_true h0
    have hl1 : (0 : Int) < (L.length : Int) := by omega
    rw [dl]
    generalize L.getD 0 default = x at a0 a1 a2 ⊢
    have HX := Lib.hid (Row.new w [.int .i64 x.id, .int .i64 x.base, .int .i64 x.since] 32)
    have HF := Lib.hid ((Fr.refl [] w).alloc (.cells #[.int .i64 x.id, .int .i64 x.base, .int .i64 x.since] 32))
    clear h hR hf hgb
    go_enter Try.func16, Try.ntmps16
    go_wp2_with fail
    refine bodyPost_ret (results_cell2 rfl _ _ _ (g := w.heap.size) (cs := [.int .i64 x.id, .int .i64 x.base, .int .i64 x.since]) rfl agg32 size32 (fun j v hj => by rw [Nat.zero_add]; exact (HX.out.cell j).trans hj)) rfl ?_
    exact ⟨rfl, HF.out⟩
  · obtain rfl : L = [] := List.eq_nil_of_length_eq_zero (by omega)
    obtain ⟨a, c, rfl⟩ := v_slice h
    have hf := (Fr.refl [] w).alloc (.cells #[.int .i64 0, .int .i64 0, .int .i64 0] 32)
    have c1 : (w.alloc (.cells #[.int .i64 0, .int .i64 0, .int .i64 0] 32)).cell? ⟨b, 1, none⟩ = some (.slice a 0 c) := cell_fr (h.head.cell 1) hf
    have HX := Lib.hid (Row.new w [.int .i64 0, .int .i64 0, .int .i64 0] 32)
    have HF := Lib.hid hf
    clear h hf h0
    go_enter Try.func16, Try.ntmps16
    go_wp2_with fail
    refine bodyPost_ret (results_cell2 rfl _ _ _ (g := w.heap.size) (cs := [.int .i64 0, .int .i64 0, .int .i64 0]) rfl agg32 size32 (fun j v hj => by rw [Nat.zero_add]; exact (HX.out.cell j).trans hj)) rfl ?_
    exact ⟨rfl, HF.out⟩
end Go.Proofs.Ytpjmmhpkiepbmaa
