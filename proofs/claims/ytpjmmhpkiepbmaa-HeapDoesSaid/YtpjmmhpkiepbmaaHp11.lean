/- An item is taken out. -/
import Derived.Test.YtpjmmhpkiepbmaaHp10
set_option linter.unusedVariables false
set_option linter.unusedSimpArgs false
namespace Go.Proofs.Ytpjmmhpkiepbmaa
open Go.RowKit
theorem wpList_drop_map {P : Program} {k e t : TypeId} {α : Type} {E : ElemOf P e α} {w : World} {bm nm : Nat} {mp : Int → Option α} {ops : Array Oper} {rest : List Oper} {o : Oper} {a : Act} {Q : Exit → Act → World → Prop} (hg : o.guard = none) (mo x : Operand)
    (hop : o.op = Op.call { callee := Callee.builtin Builtin.delete, args := #[mo, x], argTypes := #[t, k] }) (hk : P.underlying k = some (.int .i64)) (ht : P.underlying t = some (.map k e)) (hm : a.eval mo = .map (some bm)) (hmap : MapF P k e E w bm nm mp)
    (key : Int) (hx : a.eval x = .int .i64 key) (hin : inI key) (hK : ∀ w', MapF P k e E w' bm nm (fun y => if y = key then none else mp y) → Fr [bm] w w' → wpList P ops Q rest (a.put o.dst (.tuple #[])) w') : wpList P ops Q (o :: rest) a w := by
  refine wpList_plain hg fun K' hK' => ?_
  obtain ⟨w', hrun, r1, r2⟩ := hmap.drop hk ht hin o.type
  unfold Oper.wp
  simp [execOp, hop, resolve, invoke, builtin, hm, hx, hrun, Result.andThen]
  exact hK' _ _ (hK w' r1 r2)
theorem HpAt.frS {E : ElemOf Try.prog 3 Int} {w w' : World} {b m base n : Nat} {step : Int} {L : List ItD} {v : Value} {S : List Nat} (h : HpAt E w b m base n step L v) (f : Fr S w w') (hb : b ∉ S) (hm : m ∉ S) (hv : ∀ y, v.ownBlock = some y → y ∉ S) : HpAt E w' b m base n step L v :=
  ⟨h.head.fr f hb, own_keep h.row f hv, h.map.fr f hm, h.bl, h.ml, h.ne⟩
theorem remove_none (E : ElemOf Try.prog 3 Int) (hE : ∀ v, E.val v = .int .i64 v) (hE0 : E.zero = 0) (b m base n : Nat) (step : Int) (L : List ItD) (v : Value) (id : Int) (w : World) (h : HpAt E w b m base n step L v) (hid : inI id) (hp : posM L id = none) :
    Calls Try.prog 15 #[.pointer (some ⟨b, 0, none⟩), .int .i64 id] w fun e w' => e = .returned (.tuple #[(default : ItD).val, .bool false]) ∧ Fr [] w w' := by
  have hf := (Fr.refl [] w).alloc (.cells #[.int .i64 0, .int .i64 0, .int .i64 0] 32)
  have c2 : (w.alloc (.cells #[.int .i64 0, .int .i64 0, .int .i64 0] 32)).cell? ⟨b, 2, none⟩ = some (.map (some m)) := cell_fr (h.head.cell 2) hf
  have hlk := (h.map.fr hf (by simp)).look (t := 62) Try.underlying3 Try.underlying62 hid
  rw [hE, hE0, hp] at hlk
  have HX := Lib.hid (Row.new w [.int .i64 0, .int .i64 0, .int .i64 0] 32)
  have HF := Lib.hid hf
  clear h hf hp
  go_enter Try.func15, Try.ntmps15
  go_wp2_with fail
  refine bodyPost_ret (results_cell2 rfl _ _ _ (g := w.heap.size) (cs := [.int .i64 0, .int .i64 0, .int .i64 0]) rfl agg32 size32 (fun j v hj => by rw [Nat.zero_add]; exact (HX.out.cell j).trans hj)) rfl ?_
  exact ⟨rfl, HF.out⟩
set_option maxRecDepth 100000 in
set_option maxHeartbeats 4000000 in
theorem remove_some (E : ElemOf Try.prog 3 Int) (hE : ∀ v, E.val v = .int .i64 v) (hE0 : E.zero = 0) (hEg : ∀ v, inI v → E.good v) (b m base n : Nat) (step : Int) (L : List ItD) (v : Value) (id : Int) (i : Nat) (w : World) (h : HpAt E w b m base n step L v) (hg : Good step L) (hid : inI id) (hi : i < L.length) (hx : (L.getD i default).id = id) (hbase : base ≤ w.heap.size) (hn : n ≤ 8000000000) :
    Calls Try.prog 15 #[.pointer (some ⟨b, 0, none⟩), .int .i64 id] w fun e w' => e = .returned (.tuple #[(L.getD i default).val, .bool true]) ∧ HpNext E b m base (n + 5000) step (remL step L i) v w w' := by
  have hp := posM_some hg.nd hi hx
  have hf := (Fr.refl [] w).alloc (.cells #[.int .i64 0, .int .i64 0, .int .i64 0] 32)
  obtain ⟨g, cap, C, rfl, hgb, hlc, hcm, hlC, hR⟩ := own_row h.row (by omega)
  have h1 := h.fr hf
  have c1 : (w.alloc (.cells #[.int .i64 0, .int .i64 0, .int .i64 0] 32)).cell? ⟨b, 1, none⟩ = some (.slice (some ⟨g, 0, none⟩) L.length cap) := h1.head.cell 1
  have c2 : (w.alloc (.cells #[.int .i64 0, .int .i64 0, .int .i64 0] 32)).cell? ⟨b, 2, none⟩ = some (.map (some m)) := h1.head.cell 2
  have hlk := h1.map.look (t := 62) Try.underlying3 Try.underlying62 hid
  rw [hE, hE0, hp] at hlk
  have C1 := swap_any E hE hEg b m base n step L _ i (L.length - 1) _ h1 hi (by omega) hg.few (by omega) hg.ids hg.nd
  have D1 := Lib.hid C1
  have HX := Lib.hid (Row.new w [.int .i64 0, .int .i64 0, .int .i64 0] 32)
  have HF := Lib.hid hf
  have GG := Lib.hid hg
  have HXI := Lib.hid hx
  have HGB := Lib.hid hgb
  have hgw : g < w.heap.size := hR.lt
  have hbl := h.bl
  have hml := h.ml
  have hne := h.ne
  have hl1 : (((L.length - 1 : Nat)) : Int) = (L.length : Int) - 1 := by omega
  have HL1 := Lib.hid hl1
  have hfew := hg.few
  have hpos : 0 < L.length := by omega
  clear h h1 hf hp C1 hg hx hgb hR hl1
  go_enter Try.func15, Try.ntmps15
  go_wp2_with fail
  rw [← HL1.out]
  refine D1.out.mono ?_
  rintro e w2 ⟨rfl, hS, hF2⟩
  have F2 := Lib.hid hF2
  have HS2 := Lib.hid hS
  have hlast : (swapL L i (L.length - 1)).getD (L.length - 1) default = L.getD i default := by rw [swapL_get L i _ hi (by omega), if_pos rfl]
  have hls : (swapL L i (L.length - 1)).length = L.length := swapL_length _ _ _
  have hF1 : Fr [m, g] w w2 := (HF.out.mono (by simp)).trans hF2 (fun y hy => .inl hy)
  have hw2 : w.heap.size < w2.heap.size := by have := hF2.size; simp at this; omega
  have RX2 := Lib.hid (HX.out.fr hF2 (by simp [Value.ownBlock]; omega))
  have hrow : ∃ C', L.length * 3 + C'.length = cap * 3 ∧ Row w2 g (icells (swapL L i (L.length - 1)) ++ C') 32 := by
    obtain ⟨g', cap', C', hv, _, _, _, hl', hR'⟩ := own_row hS.row (by omega)
    rw [hls] at hv hl'
    cases hv
    exact ⟨C', hl', hR'⟩
  obtain ⟨C', hlC', hR2⟩ := hrow
  have c1 : w2.cell? ⟨b, 1, none⟩ = some (.slice (some ⟨g, 0, none⟩) L.length cap) := hS.head.cell 1
  have z1 := hS.head.frozen 1
  have a0 : w2.cell? ⟨g, (L.length - 1) * 3, none⟩ = some (.int .i64 (L.getD i default).id) := by have h := rowI_at hR2 (show L.length - 1 < _ by omega) 0 (by omega); rw [hlast] at h; exact h
  have a1 : w2.cell? ⟨g, (L.length - 1) * 3 + 1, none⟩ = some (.int .i64 (L.getD i default).base) := by have h := rowI_at hR2 (show L.length - 1 < _ by omega) 1 (by omega); rw [hlast] at h; exact h
  have a2 : w2.cell? ⟨g, (L.length - 1) * 3 + 2, none⟩ = some (.int .i64 (L.getD i default).since) := by have h := rowI_at hR2 (show L.length - 1 < _ by omega) 2 (by omega); rw [hlast] at h; exact h
  have hcells := cutL_cells hi C'
  have R2 := Lib.hid hR2
  have HCE := Lib.hid hcells
  have hll : L.length - 1 < L.length := by omega
  have hlc' : L.length - 1 ≤ cap := by omega
  have hcut := cutL_length L i
  have HCUT := Lib.hid hcut
  have F02 := Lib.hid hF1
  have hxm : (L.getD i default) ∈ L := getD_mem L i hi
  generalize hxx : L.getD i default = x at a0 a1 a2 hxm HCE HXI ⊢
  have HXX := Lib.hid hxx
  have hfa := (Fr.refl [] w2).alloc (.cells #[.int .i64 x.id, .int .i64 x.base, .int .i64 x.since] 32)
  have ha := (HS2.out.head).fr hfa (by simp)
  have c1a : (w2.alloc (.cells #[.int .i64 x.id, .int .i64 x.base, .int .i64 x.since] 32)).cell? ⟨b, 1, none⟩ = some (.slice (some ⟨g, 0, none⟩) L.length cap) := ha.cell 1
  have z1a := ha.frozen 1
  have c2a : (w2.alloc (.cells #[.int .i64 x.id, .int .i64 x.base, .int .i64 x.since] 32)).cell? ⟨b, 2, none⟩ = some (.map (some m)) := ha.cell 2
  have RX3 := Lib.hid ((RX2.out.fr hfa (by simp)).setCell_other ⟨b, 1, none⟩ (.slice (some ⟨g, 0, none⟩) (L.length - 1) cap) (by show w.heap.size ≠ b; omega))
  have hry := (Row.new w2 [.int .i64 x.id, .int .i64 x.base, .int .i64 x.since] 32).setCell_other ⟨b, 1, none⟩ (.slice (some ⟨g, 0, none⟩) (L.length - 1) cap) (by show w2.heap.size ≠ b; omega)
  have RY3 := Lib.hid hry
  have hfb := hfa.mono (T := [b]) (by simp) |>.setCell (p := ⟨b, 1, none⟩) (.inl (by simp)) (.slice (some ⟨g, 0, none⟩) (L.length - 1) cap)
  have FB := Lib.hid hfb
  have HM3 := Lib.hid (HS2.out.map.fr hfb (by simp; exact fun h => hne h.symm))
  have RH3 := Lib.hid (ha.setCell 1 (.slice (some ⟨g, 0, none⟩) (L.length - 1) cap))
  have RR3 := Lib.hid (R2.out.fr hfb (by simp; have := HGB.out; omega))
  have HID := Lib.hid hid
  clear hF2 hS hlast hls hF1 hR2 hcells hcut D1 hlk c2 ha hfa hfb hxx hry
  go_wp2_with (at_delete; refine wpList_drop_map rfl _ _ rfl Try.underlying3 Try.underlying62 rfl HM3.out id rfl HID.out ?_)
  intro w4 hm4 hf4
  have hcut4 : MapF Try.prog 3 3 E w4 m (n + 2) (posM (cutL L i)) := by
    have h := posM_cut hi GG.out.nd
    rw [HXX.out, HXI.out] at h
    rw [← h]
    exact hm4
  have hgm : g ≠ m := by have := HGB.out; omega
  have RH4 := Lib.hid (RH3.out.fr hf4 (by simp; exact hne))
  have RR4 := Lib.hid (RR3.out.fr hf4 (by simp; exact hgm))
  have RX4 := Lib.hid (RX3.out.fr hf4 (by simp; omega))
  have RY4 := Lib.hid (RY3.out.fr hf4 (by simp; omega))
  have h4 : HpAt E w4 b m base (n + 2) step (cutL L i) (.slice (some ⟨g, 0, none⟩) (L.length - 1) cap) := by
    refine ⟨RH4.out, ?_, hcut4, hbl, hml, hne⟩
    have h := RR4.out
    rw [HCE.out] at h
    have := row_own (base := base) HGB.out (L := cutL L i) (cap := cap) (by rw [HCUT.out]; exact hlc') hcm (by rw [HCUT.out]; simp [ItD.cells]; omega) h
    rw [HCUT.out] at this ⊢
    exact this
  have F04 : Fr [b, m, g] w w4 := ((F02.out.mono (T := [b, m, g]) (by intro y hy; simp at hy; exact .inl (by rcases hy with h | h <;> simp [h]))).trans FB.out (fun y hy => by simp at hy; exact .inl (by simp [hy]))).trans hf4 (fun y hy => by simp at hy; exact .inl (by simp [hy]))
  have H4 := Lib.hid h4
  have FF4 := Lib.hid F04
  have hw4 : w2.heap.size + 1 ≤ w4.heap.size := by have h1 := FB.out.size; have h2 := hf4.size; have h3 := RY4.out.lt; omega
  have hwm : w.heap.size ≠ g := by omega
  clear hm4 hf4 hcut4 h4 F04 c1a z1a c2a a0 a1 a2 c1 z1
  have hremL : remL step L i = if i < L.length - 1 then downL step (upL step (cutL L i) i) i else cutL L i := rfl
  by_cases hil : i < L.length - 1
  · have di : decide (i < L.length - 1) = true := decide_eq_true hil
    rw [if_pos hil] at hremL
    have HRM := Lib.hid hremL
    have hgc := cutL_good GG.out hi
    have hic : i < (cutL L i).length := by rw [HCUT.out]; exact hil
    have hug := upL_good hgc hic
    have C5 := Lib.hid (up_any E hE hEg b m base (n + 2) step (cutL L i) _ i w4 H4.out hic hgc (by omega))
    have HUG := Lib.hid hug
    have HIC := Lib.hid hic
    clear hgc hug hic hremL
    go_wp2_with fail
    refine C5.out.mono ?_
    rintro e w5 ⟨rfl, ⟨n5, hn5, h5⟩, hF5⟩
    have C6 := Lib.hid (down_any E hE hEg b m base n5 step (upL step (cutL L i) i) _ i w5 h5 (by rw [HUG.out.2]; exact HIC.out) HUG.out.1 (by rw [HUG.out.2, HCUT.out]; omega))
    have RX5 := Lib.hid (RX4.out.fr hF5 (by simp [Value.ownBlock]; omega))
    have RY5 := Lib.hid (RY4.out.fr hF5 (by simp [Value.ownBlock]; omega))
    have FF5 := Lib.hid (FF4.out.trans hF5 (fun y hy => by simp [Value.ownBlock] at hy; exact .inl (by rcases hy with h | h <;> simp [h])))
    have HU2 := Lib.hid (show (upL step (cutL L i) i).length = L.length - 1 by rw [HUG.out.2, HCUT.out])
    clear h5 hF5
    go_wp2_with fail
    refine C6.out.mono ?_
    rintro e w6 ⟨rfl, ⟨n6, hn6, h6⟩, hF6⟩
    rw [HU2.out] at hn6
    have RX6 := Lib.hid (RX5.out.fr hF6 (by simp [Value.ownBlock]; omega))
    have RY6 := Lib.hid (RY5.out.fr hF6 (by simp [Value.ownBlock]; omega))
    have FF6 := Lib.hid (FF5.out.trans hF6 (fun y hy => by simp [Value.ownBlock] at hy; exact .inl (by rcases hy with h | h <;> simp [h])))
    have H6 := Lib.hid h6
    clear h6 hF6
    have r0 := RX6.out
    have y0 : w6.cell? ⟨w2.heap.size, 0, none⟩ = some (.int .i64 x.id) := RY6.out.cell 0
    have y1 : w6.cell? ⟨w2.heap.size, 1, none⟩ = some (.int .i64 x.base) := RY6.out.cell 1
    have y2 : w6.cell? ⟨w2.heap.size, 2, none⟩ = some (.int .i64 x.since) := RY6.out.cell 2
    have r1 : w6.cell? ⟨w.heap.size, 0, none⟩ = some (.int .i64 0) := r0.cell 0
    have r2 : w6.cell? ⟨w.heap.size, 1, none⟩ = some (.int .i64 0) := r0.cell 1
    have r3 : w6.cell? ⟨w.heap.size, 2, none⟩ = some (.int .i64 0) := r0.cell 2
    have f1 : w6.frozen? ⟨w.heap.size, 0, none⟩ = false := r0.frozen 0
    have f2 : w6.frozen? ⟨w.heap.size, 1, none⟩ = false := r0.frozen 1
    have f3 : w6.frozen? ⟨w.heap.size, 2, none⟩ = false := r0.frozen 2
    have RF := Lib.hid (((r0.setCell 0 (.int .i64 x.id)).setCell 1 (.int .i64 x.base)).setCell 2 (.int .i64 x.since))
    have FS := Lib.hid ((((Fr.refl [w.heap.size] w6).setCell (p := ⟨w.heap.size, 0, none⟩) (.inl (by simp)) (.int .i64 x.id)).setCell (p := ⟨w.heap.size, 1, none⟩) (.inl (by simp)) (.int .i64 x.base)).setCell (p := ⟨w.heap.size, 2, none⟩) (.inl (by simp)) (.int .i64 x.since))
    clear r0
    go_wp2_with fail
    refine bodyPost_ret (results_cell2 rfl _ _ _ (g := w.heap.size) (cs := [.int .i64 x.id, .int .i64 x.base, .int .i64 x.since]) rfl agg32 size32 (fun j v hj => by rw [Nat.zero_add]; exact (RF.out.cell j).trans hj)) rfl ?_
    rw [HRM.out, HXX.out]
    refine ⟨rfl, _, _, ?_, H6.out.frS FS.out (by simp; omega) (by simp; omega) (fun y hy => by simp [Value.ownBlock] at hy; simp; omega), (FF6.out).trans FS.out (fun y hy => by simp at hy; exact .inr (by omega)), .inl rfl⟩
    omega
  · have di : decide (i < L.length - 1) = false := decide_eq_false hil
    rw [if_neg hil] at hremL
    have HRM := Lib.hid hremL
    clear hremL
    have r0 := RX4.out
    have y0 : w4.cell? ⟨w2.heap.size, 0, none⟩ = some (.int .i64 x.id) := RY4.out.cell 0
    have y1 : w4.cell? ⟨w2.heap.size, 1, none⟩ = some (.int .i64 x.base) := RY4.out.cell 1
    have y2 : w4.cell? ⟨w2.heap.size, 2, none⟩ = some (.int .i64 x.since) := RY4.out.cell 2
    have r1 : w4.cell? ⟨w.heap.size, 0, none⟩ = some (.int .i64 0) := r0.cell 0
    have r2 : w4.cell? ⟨w.heap.size, 1, none⟩ = some (.int .i64 0) := r0.cell 1
    have r3 : w4.cell? ⟨w.heap.size, 2, none⟩ = some (.int .i64 0) := r0.cell 2
    have f1 : w4.frozen? ⟨w.heap.size, 0, none⟩ = false := r0.frozen 0
    have f2 : w4.frozen? ⟨w.heap.size, 1, none⟩ = false := r0.frozen 1
    have f3 : w4.frozen? ⟨w.heap.size, 2, none⟩ = false := r0.frozen 2
    have RF := Lib.hid (((r0.setCell 0 (.int .i64 x.id)).setCell 1 (.int .i64 x.base)).setCell 2 (.int .i64 x.since))
    have FS := Lib.hid ((((Fr.refl [w.heap.size] w4).setCell (p := ⟨w.heap.size, 0, none⟩) (.inl (by simp)) (.int .i64 x.id)).setCell (p := ⟨w.heap.size, 1, none⟩) (.inl (by simp)) (.int .i64 x.base)).setCell (p := ⟨w.heap.size, 2, none⟩) (.inl (by simp)) (.int .i64 x.since))
    clear r0
    go_wp2_with fail
    refine bodyPost_ret (results_cell2 rfl _ _ _ (g := w.heap.size) (cs := [.int .i64 x.id, .int .i64 x.base, .int .i64 x.since]) rfl agg32 size32 (fun j v hj => by rw [Nat.zero_add]; exact (RF.out.cell j).trans hj)) rfl ?_
    rw [HRM.out, HXX.out]
    refine ⟨rfl, _, _, ?_, H4.out.frS FS.out (by simp; omega) (by simp; omega) (fun y hy => by simp [Value.ownBlock] at hy; simp; omega), (FF4.out).trans FS.out (fun y hy => by simp at hy; exact .inr (by omega)), .inl rfl⟩
    omega
end Go.Proofs.Ytpjmmhpkiepbmaa
