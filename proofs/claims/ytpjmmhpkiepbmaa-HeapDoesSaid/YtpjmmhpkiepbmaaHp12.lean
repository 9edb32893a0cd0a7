/- The first item is taken. -/
import Derived.Test.YtpjmmhpkiepbmaaHp11
set_option linter.unusedVariables false
set_option linter.unusedSimpArgs false
namespace Go.Proofs.Ytpjmmhpkiepbmaa
open Go.RowKit
theorem HpNext.pre {E : ElemOf Try.prog 3 Int} {b m base n : Nat} {step : Int} {L : List ItD} {v : Value} {w w1 w' : World} (h : HpNext E b m base n step L v w1 w') (f : Fr [] w w1) : HpNext E b m base n step L v w w' := by
  obtain ⟨n', v', h1, h2, h3, h4⟩ := h
  refine ⟨n', v', h1, h2, (f.mono (by simp)).trans h3 (fun y hy => .inl hy), ?_⟩
  rcases h4 with h4 | ⟨k, h4, h5⟩
  · exact .inl h4
  · exact .inr ⟨k, h4, Nat.le_trans f.size h5⟩
theorem pop_none (E : ElemOf Try.prog 3 Int) (b m base n : Nat) (step : Int) (v : Value) (w : World) (h : HpAt E w b m base n step [] v) :
    Calls Try.prog 12 #[.pointer (some ⟨b, 0, none⟩)] w fun e w' => e = .returned (.tuple #[(default : ItD).val, .bool false]) ∧ Fr [] w w' := by
  have hf := (Fr.refl [] w).alloc (.cells #[.int .i64 0, .int .i64 0, .int .i64 0] 32)
  have C := peek_any E b m base n step [] v _ (h.fr hf) (by simp)
  rw [show decide (0 < ([] : List ItD).length) = false from rfl, show (([] : List ItD).getD 0 default).val = .agg #[.int .i64 0, .int .i64 0, .int .i64 0] from rfl] at C
  have HC := Lib.hid C
  have HX := Lib.hid (Row.new w [.int .i64 0, .int .i64 0, .int .i64 0] 32)
  have HF := Lib.hid hf
  clear h hf C
  go_enter Try.func12, Try.ntmps12
  go_wp2_with fail
  refine HC.out.mono ?_
  rintro e w1 ⟨rfl, h1⟩
  have HX1 := Lib.hid (HX.out.fr h1 (by simp))
  have HF1 := Lib.hid (HF.out.trans h1 (fun y hy => .inl hy))
  clear h1
  have hs := HX1.out.lt
  have r0 := HX1.out
  have f1 : w1.frozen? ⟨w.heap.size, 0, none⟩ = false := r0.frozen 0
  have f2 : w1.frozen? ⟨w.heap.size, 1, none⟩ = false := r0.frozen 1
  have f3 : w1.frozen? ⟨w.heap.size, 2, none⟩ = false := r0.frozen 2
  have r1 : w1.cell? ⟨w.heap.size, 0, none⟩ = some (.int .i64 0) := r0.cell 0
  have r2 : w1.cell? ⟨w.heap.size, 1, none⟩ = some (.int .i64 0) := r0.cell 1
  have r3 : w1.cell? ⟨w.heap.size, 2, none⟩ = some (.int .i64 0) := r0.cell 2
  have RF := Lib.hid ((((r0.setCell 0 (.int .i64 0)).setCell 1 (.int .i64 0)).setCell 2 (.int .i64 0)).alloc (.cells #[.int .i64 0, .int .i64 0, .int .i64 0] 32))
  have FS := Lib.hid ((((((HF1.out.mono (T := [w.heap.size]) (by simp))).setCell (p := ⟨w.heap.size, 0, none⟩) (.inl (by simp)) (.int .i64 0)).setCell (p := ⟨w.heap.size, 1, none⟩) (.inl (by simp)) (.int .i64 0)).setCell (p := ⟨w.heap.size, 2, none⟩) (.inl (by simp)) (.int .i64 0)).alloc (.cells #[.int .i64 0, .int .i64 0, .int .i64 0] 32))
  clear r0
  go_wp2_with fail
  refine bodyPost_ret (results_cell2 rfl _ _ _ (g := w.heap.size) (cs := [.int .i64 0, .int .i64 0, .int .i64 0]) rfl agg32 size32 (fun j v hj => by rw [Nat.zero_add]; exact (RF.out.cell j).trans hj)) rfl ?_
  exact ⟨rfl, FS.out.mono (by simp)⟩
set_option maxHeartbeats 4000000 in
theorem pop_some (E : ElemOf Try.prog 3 Int) (hE : ∀ v, E.val v = .int .i64 v) (hE0 : E.zero = 0) (hEg : ∀ v, inI v → E.good v) (b m base n : Nat) (step : Int) (L : List ItD) (v : Value) (w : World) (h : HpAt E w b m base n step L v) (hg : Good step L) (hl : 0 < L.length) (hbase : base ≤ w.heap.size) (hn : n ≤ 8000000000) :
    Calls Try.prog 12 #[.pointer (some ⟨b, 0, none⟩)] w fun e w' => e = .returned (.tuple #[(L.getD 0 default).val, .bool true]) ∧ HpNext E b m base (n + 5000) step (remL step L 0) v w w' := by
  have hf := (Fr.refl [] w).alloc (.cells #[.int .i64 0, .int .i64 0, .int .i64 0] 32)
  have C := peek_any E b m base n step L v _ (h.fr hf) hg.few
  rw [decide_eq_true hl] at C
  have hxm : (L.getD 0 default) ∈ L := getD_mem L 0 hl
  have hid := hg.ids _ hxm
  have R := fun w' f (hs : base ≤ w'.heap.size) => remove_some E hE hE0 hEg b m base n step L v (L.getD 0 default).id 0 w' (HpAt.fr h f) hg hid hl rfl hs hn
  have HVO := Lib.hid (fun y hy => (h.row.lt y hy).2 : ∀ y, v.ownBlock = some y → y < w.heap.size)
  have hbl := h.bl
  have hml := h.ml
  have hbw := h.head.lt
  have hmw : m < w.heap.size := h.map.lt
  generalize hx : L.getD 0 default = x at C R ⊢
  have HXX := Lib.hid hx
  simp only [ItD.val] at C R ⊢
  have HC := Lib.hid C
  have HR := Lib.hid R
  have HX := Lib.hid (Row.new w [.int .i64 0, .int .i64 0, .int .i64 0] 32)
  have HF := Lib.hid hf
  clear h hf C R hx hg hid hxm
  go_enter Try.func12, Try.ntmps12
  go_wp2_with fail
  refine HC.out.mono ?_
  rintro e w1 ⟨rfl, h1⟩
  have HX1 := Lib.hid (HX.out.fr h1 (by simp))
  have HF1 := Lib.hid (HF.out.trans h1 (fun y hy => .inl hy))
  clear h1
  have hs := HX1.out.lt
  have RX := Lib.hid (HX1.out.alloc (.cells #[.int .i64 x.id, .int .i64 x.base, .int .i64 x.since] 32))
  have FX := Lib.hid (HF1.out.alloc (.cells #[.int .i64 x.id, .int .i64 x.base, .int .i64 x.since] 32))
  have CR := Lib.hid (HR.out _ FX.out (by simp; omega))
  go_wp2_with fail
  refine CR.out.mono ?_
  rintro e w2 ⟨rfl, h2⟩
  obtain ⟨n', v', hn', hp', hf2, hv'⟩ := h2
  have hsz : (w1.alloc (.cells #[.int .i64 x.id, .int .i64 x.base, .int .i64 x.since] 32)).heap.size = w1.heap.size + 1 := by simp
  rw [hsz] at hv'
  have hnot : w.heap.size ∉ b :: m :: v.ownBlock.toList := by
    intro hy
    simp only [List.mem_cons, Option.mem_toList] at hy
    rcases hy with hy | hy | hy
    · omega
    · omega
    · have := HVO.out _ hy; omega
  have r0 := RX.out.fr hf2 hnot
  have F2 := Lib.hid ((FX.out.mono (T := b :: m :: v.ownBlock.toList) (by simp)).trans hf2 (fun y hy => .inl hy))
  have HP := Lib.hid hp'
  have HV := Lib.hid hv'
  have f1 : w2.frozen? ⟨w.heap.size, 0, none⟩ = false := r0.frozen 0
  have f2 : w2.frozen? ⟨w.heap.size, 1, none⟩ = false := r0.frozen 1
  have f3 : w2.frozen? ⟨w.heap.size, 2, none⟩ = false := r0.frozen 2
  have r1 : w2.cell? ⟨w.heap.size, 0, none⟩ = some (.int .i64 0) := r0.cell 0
  have r2 : w2.cell? ⟨w.heap.size, 1, none⟩ = some (.int .i64 0) := r0.cell 1
  have r3 : w2.cell? ⟨w.heap.size, 2, none⟩ = some (.int .i64 0) := r0.cell 2
  have RF := Lib.hid (((r0.setCell 0 (.int .i64 x.id)).setCell 1 (.int .i64 x.base)).setCell 2 (.int .i64 x.since))
  have FS := Lib.hid ((((Fr.refl [w.heap.size] w2).setCell (p := ⟨w.heap.size, 0, none⟩) (.inl (by simp)) (.int .i64 x.id)).setCell (p := ⟨w.heap.size, 1, none⟩) (.inl (by simp)) (.int .i64 x.base)).setCell (p := ⟨w.heap.size, 2, none⟩) (.inl (by simp)) (.int .i64 x.since))
  clear r0 hf2 hp' hv' hsz
  go_wp2_with fail
  refine bodyPost_ret (results_cell2 rfl _ _ _ (g := w.heap.size) (cs := [.int .i64 x.id, .int .i64 x.base, .int .i64 x.since]) rfl agg32 size32 (fun j v hj => by rw [Nat.zero_add]; exact (RF.out.cell j).trans hj)) rfl ?_
  refine ⟨rfl, n', v', hn', HP.out.frS FS.out (by simp; omega) (by simp; omega) (fun y hy => ?_), F2.out.trans FS.out (fun y hy => by simp at hy; exact .inr (by omega)), ?_⟩
  · simp only [List.mem_singleton]
    rcases HV.out with h5 | ⟨k, h5, h6⟩
    · rw [h5] at hy; have := HVO.out _ hy; omega
    · rw [h5] at hy; cases hy; omega
  · rcases HV.out with h5 | ⟨k, h5, h6⟩
    · exact .inl h5
    · exact .inr ⟨k, h5, by omega⟩
end Go.Proofs.Ytpjmmhpkiepbmaa
