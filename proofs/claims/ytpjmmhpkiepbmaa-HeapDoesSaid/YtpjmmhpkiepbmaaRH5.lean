/- The document's heap: an item taken out. (Printed by genrh5.py.) -/
import Derived.Test.YtpjmmhpkiepbmaaRH4
set_option linter.unusedVariables false
set_option linter.unusedSimpArgs false
namespace Go.Proofs.Ytpjmmhpkiepbmaa
open Go.RowKit
theorem rrem_none (b base : Nat) (s : Int) (L : List ItD) (v : Value) (id : Int) (w : World) (h : RhAt w b base s L v) (hg : Good s L) (hh : hasI L id = false) :
    Calls Try.prog 14 #[.pointer (some ⟨b, 0, none⟩), .int .i64 id] w fun e w' => e = .returned (.tuple #[(default : ItD).val, .bool false]) ∧ Fr [] w w' := by
  have hf := (Fr.refl [] w).alloc (.cells #[.int .i64 0, .int .i64 0, .int .i64 0] 37)
  have C := rplace_any b base s L v id _ (h.fr hf) hg.nd hg.few
  rw [placeI_not hh] at C
  have HX := Lib.hid (Row.new w [.int .i64 0, .int .i64 0, .int .i64 0] 37)
  have HF := Lib.hid hf
  have D := Lib.hid C
  clear h hf hg hh C
  go_enter Try.func14, Try.ntmps14
  go_wp2_with fail
  refine D.out.mono ?_
  rintro e w2 ⟨rfl, hw2⟩
  rw [← hw2]
  clear hw2 D
  go_wp2_with fail
  refine bodyPost_ret (results_cell2 rfl _ _ _ (g := w.heap.size) (cs := [.int .i64 0, .int .i64 0, .int .i64 0]) rfl agg37 size37 (fun j v hj => by rw [Nat.zero_add]; exact (HX.out.cell j).trans hj)) rfl ?_
  exact ⟨rfl, HF.out⟩
set_option maxRecDepth 100000 in
set_option maxHeartbeats 4000000 in
theorem rrem_some (b base : Nat) (s : Int) (L : List ItD) (v : Value) (id : Int) (i : Nat) (w : World) (h : RhAt w b base s L v) (hg : Good s L) (hi : i < L.length) (hp : placeI L id = i) (hbase : base ≤ w.heap.size) :
    Calls Try.prog 14 #[.pointer (some ⟨b, 0, none⟩), .int .i64 id] w fun e w' => e = .returned (.tuple #[(L.getD i default).val, .bool true]) ∧ RhNext b base s (L.take i ++ L.drop (i + 1)) v w w' := by
  have hf := (Fr.refl [] w).alloc (.cells #[.int .i64 0, .int .i64 0, .int .i64 0] 37)
  have C := rplace_any b base s L v id _ (h.fr hf) hg.nd hg.few
  rw [hp] at C
  obtain ⟨g, cap, C', rfl, hgb, _, hR⟩ := own_row37 h.row (by omega)
  have hR1 := hR.fr hf (by simp)
  have c1 : (w.alloc (.cells #[.int .i64 0, .int .i64 0, .int .i64 0] 37)).cell? ⟨b, 1, none⟩ = some (.slice (some ⟨g, 0, none⟩) L.length cap) := (h.fr hf).head.cell 1
  have a0 : (w.alloc (.cells #[.int .i64 0, .int .i64 0, .int .i64 0] 37)).cell? ⟨g, i * 3, none⟩ = some (.int .i64 (L.getD i default).id) := row37_at hR1 hi 0 (by omega)
  have a1 : (w.alloc (.cells #[.int .i64 0, .int .i64 0, .int .i64 0] 37)).cell? ⟨g, i * 3 + 1, none⟩ = some (.int .i64 (L.getD i default).base) := row37_at hR1 hi 1 (by omega)
  have a2 : (w.alloc (.cells #[.int .i64 0, .int .i64 0, .int .i64 0] 37)).cell? ⟨g, i * 3 + 2, none⟩ = some (.int .i64 (L.getD i default).since) := row37_at hR1 hi 2 (by omega)
  have hfew := hg.few
  have hbl := h.bl
  have hbw := h.head.lt
  have hgw : g < w.heap.size := hR.lt
  have i0 : (0 : Int) ≤ (i : Int) := by omega
  have i1 : (i : Int) < (L.length : Int) := by omega
  generalize L.getD i default = x at a0 a1 a2 ⊢
  have hf2 := hf.alloc (.cells #[.int .i64 x.id, .int .i64 x.base, .int .i64 x.since] 37)
  have H := Lib.hid (h.fr hf2)
  have F := Lib.hid hf2
  have HX0 := Lib.hid ((Row.new w [.int .i64 0, .int .i64 0, .int .i64 0] 37).alloc (.cells #[.int .i64 x.id, .int .i64 x.base, .int .i64 x.since] 37))
  have hrx := Row.new (w.alloc (.cells #[.int .i64 0, .int .i64 0, .int .i64 0] 37)) [.int .i64 x.id, .int .i64 x.base, .int .i64 x.since] 37
  rw [show (w.alloc (.cells #[.int .i64 0, .int .i64 0, .int .i64 0] 37)).heap.size = w.heap.size + 1 by simp] at hrx
  have HX1 := Lib.hid hrx
  have D := Lib.hid C
  clear h hf hg C hp hR hR1 hf2 hrx
  go_enter Try.func14, Try.ntmps14
  go_wp2_with fail
  refine D.out.mono ?_
  rintro e w2 ⟨rfl, hw2⟩
  rw [← hw2]
  clear hw2 D
  go_wp2_with fail
  clear c1 a0 a1 a2
  generalize (w.alloc (.cells #[.int .i64 0, .int .i64 0, .int .i64 0] 37)).alloc (.cells #[.int .i64 x.id, .int .i64 x.base, .int .i64 x.since] 37) = W1 at H F HX0 HX1 ⊢
  obtain ⟨_, hlo, _, HI1, _⟩ := rh_cut H.out (j := i) (by omega)
  obtain ⟨A2, _, hhi, _, HI2⟩ := rh_cut H.out (j := i + 1) (by omega)
  rw [show (((i + 1 : Nat)) : Int) = (i : Int) + 1 by omega] at hhi
  have q1 : IntKind.i64.wrap ((i : Int) + 1) = (i : Int) + 1 := wrap_in (by omega)
  obtain ⟨wd, hwd⟩ : ∃ wd, wd = W1.drew := ⟨_, rfl⟩
  have KEEP := Lib.hid (fun W' (f : Fr [] W1 W') => (H.out.fr f).head.cell 1 : ∀ W', Fr [] W1 W' → W'.cell? ⟨b, 1, none⟩ = some (.slice (some ⟨g, 0, none⟩) L.length cap))
  refine wp_region_last (S := (fun w' => w'.cell? ⟨b, 1, none⟩ = some (.slice (some ⟨g, 0, none⟩) L.length cap))) 19 (by kernel_rfl) (KEEP.out _ (Fr.refl [] W1).drew) (fun hHeld => ?_)
  rw [← hwd] at hHeld ⊢
  have HZ := Lib.hid (hwd ▸ (Fr.refl [] W1).drew : Fr [] W1 wd)
  clear hwd
  refine wpAnyL_take (i := 0) (v := ?_) rfl (by kernel_rfl) (by kernel_rfl) (by kernel_rfl) (by kernel_rfl) (fun _ _ _ h => h) (Or.inl ⟨rfl, ?_⟩) hHeld ?_
  rotate_left
  · (intro w hSw; (try dsimp only at hSw); go_simp; try (with_reducible rfl))
  simp only [List.getElem_toArray, List.getElem_cons_succ, List.getElem_cons_zero, Act.put, List.setIfInBounds_toArray, List.set_cons_zero, List.set_cons_succ]
  refine wpAnyL_take (i := 2) (v := ?_) rfl (by kernel_rfl) (by kernel_rfl) (by kernel_rfl) (by kernel_rfl) (fun _ _ _ h => h) (Or.inl ⟨rfl, ?_⟩) hHeld ?_
  rotate_left
  · (intro w hSw; (try dsimp only at hSw); go_simp; try (with_reducible rfl))
  simp only [List.getElem_toArray, List.getElem_cons_succ, List.getElem_cons_zero, Act.put, List.setIfInBounds_toArray, List.set_cons_zero, List.set_cons_succ]
  refine wpAnyL_take (i := 3) (v := ?_) rfl (by kernel_rfl) (by kernel_rfl) (by kernel_rfl) (by kernel_rfl) (fun _ _ _ h => h) (Or.inl ⟨rfl, ?_⟩) hHeld ?_
  rotate_left
  · (intro w hSw; (try dsimp only at hSw); go_simp; try (with_reducible rfl))
  simp only [List.getElem_toArray, List.getElem_cons_succ, List.getElem_cons_zero, Act.put, List.setIfInBounds_toArray, List.set_cons_zero, List.set_cons_succ]
  refine wpAnyL_take (i := 4) (v := ?_) rfl (by kernel_rfl) (by kernel_rfl) (by kernel_rfl) (by kernel_rfl) (fun _ _ _ h => h) (Or.inl ⟨rfl, ?_⟩) hHeld ?_
  rotate_left
  · (intro w hSw; (try dsimp only at hSw); go_simp; try (with_reducible rfl))
  simp only [List.getElem_toArray, List.getElem_cons_succ, List.getElem_cons_zero, Act.put, List.setIfInBounds_toArray, List.set_cons_zero, List.set_cons_succ]
  refine wpAnyL_take (i := 5) (v := ?_) rfl (by kernel_rfl) (by kernel_rfl) (by kernel_rfl) (by kernel_rfl) (fun _ _ _ h => h) (Or.inl ⟨rfl, ?_⟩) hHeld ?_
  rotate_left
  · (intro w hSw; (try dsimp only at hSw); go_simp; try (with_reducible rfl))
  simp only [List.getElem_toArray, List.getElem_cons_succ, List.getElem_cons_zero, Act.put, List.setIfInBounds_toArray, List.set_cons_zero, List.set_cons_succ]
  refine wpAnyL_take (i := 6) (v := ?_) rfl (by kernel_rfl) (by kernel_rfl) (by kernel_rfl) (by kernel_rfl) (fun _ _ _ h => h) (Or.inl ⟨rfl, ?_⟩) hHeld ?_
  rotate_left
  · (intro w hSw; (try dsimp only at hSw); go_simp; try (with_reducible rfl))
  simp only [List.getElem_toArray, List.getElem_cons_succ, List.getElem_cons_zero, Act.put, List.setIfInBounds_toArray, List.set_cons_zero, List.set_cons_succ]
  refine wpAnyL_take (i := 7) (v := ?_) rfl (by kernel_rfl) (by kernel_rfl) (by kernel_rfl) (by kernel_rfl) (fun _ _ _ h => h) (Or.inl ⟨rfl, ?_⟩) hHeld ?_
  rotate_left
  · (intro w hSw; (try dsimp only at hSw); go_simp; try (with_reducible rfl))
  simp only [List.getElem_toArray, List.getElem_cons_succ, List.getElem_cons_zero, Act.put, List.setIfInBounds_toArray, List.set_cons_zero, List.set_cons_succ]
  refine wpAnyL_take (i := 9) (v := ?_) rfl (by kernel_rfl) (by kernel_rfl) (by kernel_rfl) (by kernel_rfl) (fun _ _ _ h => h) (Or.inl ⟨rfl, ?_⟩) hHeld ?_
  rotate_left
  · (intro w hSw; (try dsimp only at hSw); go_simp; try (with_reducible rfl))
  simp only [List.getElem_toArray, List.getElem_cons_succ, List.getElem_cons_zero, Act.put, List.setIfInBounds_toArray, List.set_cons_zero, List.set_cons_succ]
  refine wpAnyL_take (i := 10) (v := ?_) rfl (by kernel_rfl) (by kernel_rfl) (by kernel_rfl) (by kernel_rfl) (fun _ _ _ h => h) (Or.inl ⟨rfl, ?_⟩) hHeld ?_
  rotate_left
  · (intro w hSw; (try dsimp only at hSw); go_simp; try (with_reducible rfl))
  simp only [List.getElem_toArray, List.getElem_cons_succ, List.getElem_cons_zero, Act.put, List.setIfInBounds_toArray, List.set_cons_zero, List.set_cons_succ]
  refine wpAnyL_take (i := 11) (v := ?_) rfl (by kernel_rfl) (by kernel_rfl) (by kernel_rfl) (by kernel_rfl) (fun _ _ _ h => h) (Or.inl ⟨rfl, ?_⟩) hHeld ?_
  rotate_left
  · (intro w hSw; (try dsimp only at hSw); go_simp; try (with_reducible rfl))
  simp only [List.getElem_toArray, List.getElem_cons_succ, List.getElem_cons_zero, Act.put, List.setIfInBounds_toArray, List.set_cons_zero, List.set_cons_succ]
  refine wpAnyL_take (i := 12) (v := ?_) rfl (by kernel_rfl) (by kernel_rfl) (by kernel_rfl) (by kernel_rfl) (fun _ _ _ h => h) (Or.inl ⟨rfl, ?_⟩) hHeld ?_
  rotate_left
  · (intro w hSw; (try dsimp only at hSw); go_simp; try (with_reducible rfl))
  simp only [List.getElem_toArray, List.getElem_cons_succ, List.getElem_cons_zero, Act.put, List.setIfInBounds_toArray, List.set_cons_zero, List.set_cons_succ]
  refine wpAnyL_take (i := 13) (v := ?_) rfl (by kernel_rfl) (by kernel_rfl) (by kernel_rfl) (by kernel_rfl) (fun _ _ _ h => h) (Or.inl ⟨rfl, ?_⟩) hHeld ?_
  rotate_left
  · (intro w hSw; (try dsimp only at hSw); go_simp; try (with_reducible rfl))
  simp only [List.getElem_toArray, List.getElem_cons_succ, List.getElem_cons_zero, Act.put, List.setIfInBounds_toArray, List.set_cons_zero, List.set_cons_succ]
  refine wpAnyL_take (i := 14) (v := ?_) rfl (by kernel_rfl) (by kernel_rfl) (by kernel_rfl) (by kernel_rfl) (fun _ _ _ h => h) (Or.inl ⟨rfl, ?_⟩) hHeld ?_
  rotate_left
  · (intro w hSw; (try dsimp only at hSw); go_simp; try (with_reducible rfl))
  simp only [List.getElem_toArray, List.getElem_cons_succ, List.getElem_cons_zero, Act.put, List.setIfInBounds_toArray, List.set_cons_zero, List.set_cons_succ]
  refine wpAnyL_take (i := 15) (v := ?_) rfl (by kernel_rfl) (by kernel_rfl) (by kernel_rfl) (by kernel_rfl) (fun _ _ _ h => h) (Or.inl ⟨rfl, ?_⟩) hHeld ?_
  rotate_left
  · (intro w hSw; (try dsimp only at hSw); go_simp; try (with_reducible rfl))
  simp only [List.getElem_toArray, List.getElem_cons_succ, List.getElem_cons_zero, Act.put, List.setIfInBounds_toArray, List.set_cons_zero, List.set_cons_succ]
  clear hlo hhi q1
  have KEEP2 := Lib.hid (fun W' (f : Fr [] wd W') => KEEP.out W' (HZ.out.trans f (fun y hy => .inl hy)))
  have HJ1 := Lib.hid (fun W' (f : Fr [] wd W') => HI1 W' (HZ.out.trans f (fun y hy => .inl hy)))
  have HJ2 := Lib.hid (fun W' (f : Fr [] wd W') => HI2 W' (HZ.out.trans f (fun y hy => .inl hy)))
  clear HI1 HI2
  refine wpAnyL_ready (rs := [1]) (by kernel_rfl) (by simp) ?_
  refine AllReadyL.cons rfl (fun K hK => ?_) AllReadyL.nil
  simp only [List.getElem_toArray, List.getElem_cons_succ, List.getElem_cons_zero]
  go_simp
  refine hK.out _ _ (KEEP2.out _ ((Fr.refl [] wd).alloc _)) (fun hHeld => ?_)
  clear hK K
  try simp only [List.getElem_toArray, List.getElem_cons_succ, List.getElem_cons_zero, Act.put, List.setIfInBounds_toArray, List.set_cons_zero, List.set_cons_succ]
  have OWN := Lib.hid (World.ownsRow_made (base := wd.heap.size) (e := 37) (size := 3) wd #[] 0 (Nat.le_refl _) (Nat.zero_le _) rfl)
  have FC := Lib.hid ((Fr.refl [] wd).alloc (.cells #[] 37))
  refine wpAnyL_ready (rs := [8]) (by kernel_rfl) (by simp) ?_
  refine AllReadyL.cons rfl (fun K hK => ?_) AllReadyL.nil
  refine step_append_its rfl _ _ rfl wd.heap.size (.slice (some ⟨wd.heap.size, 0, none⟩) 0 0) [] rfl OWN.out _ i _ (L.take i) rfl (HJ1.out _ FC.out) (by simp; omega) (FC.out.size) ?_
  intro v1 w8 hown1 hgr1 hor1
  have F8 := Lib.hid (FC.out.trans (T := [wd.heap.size]) (fr_grown1 hgr1) (fun y hy => .inr (by simp at hy; omega)))
  refine hK.out _ _ (KEEP2.out _ F8.out) (fun hHeld => ?_)
  clear hK K
  try simp only [List.getElem_toArray, List.getElem_cons_succ, List.getElem_cons_zero, Act.put, List.setIfInBounds_toArray, List.set_cons_zero, List.set_cons_succ]
  have OWN1 := Lib.hid hown1
  clear hown1 hgr1 hor1
  refine wpAnyL_ready (rs := [16]) (by kernel_rfl) (by simp) ?_
  refine AllReadyL.cons rfl (fun K hK => ?_) AllReadyL.nil
  refine step_append_its rfl _ _ rfl wd.heap.size v1 ([] ++ L.take i) rfl OWN1.out _ (L.length - (i + 1)) _ (L.drop (i + 1)) rfl (HJ2.out _ F8.out) (by simp; omega) (F8.out.size) ?_
  intro v2 w16 hown2 hgr2 hor2
  have F16 := Lib.hid (F8.out.trans (fr_grown hgr2) (fun y hy => .inr (by simp only [Option.mem_toList] at hy; exact (OWN1.out.lt y hy).1)))
  refine hK.out _ _ (KEEP2.out _ F16.out) (fun hHeld => ?_)
  clear hK K
  try simp only [List.getElem_toArray, List.getElem_cons_succ, List.getElem_cons_zero, Act.put, List.setIfInBounds_toArray, List.set_cons_zero, List.set_cons_succ]
  have hv2 : ∃ a2 n2 c2, v2 = .slice a2 n2 c2 := by
    rcases hown2.2 with ⟨h1, _⟩ | ⟨g2, c2, cur2, h1, _⟩
    · exact ⟨_, _, _, h1⟩
    · exact ⟨_, _, _, h1⟩
  obtain ⟨a2, n2, c2, rfl⟩ := hv2
  have OWN2 := Lib.hid hown2
  clear hown2 hgr2 hor2
  refine wpAnyL_ready (rs := [17]) (by kernel_rfl) (by simp) ?_
  refine AllReadyL.cons rfl (fun K hK => ?_) AllReadyL.nil
  simp only [List.getElem_toArray, List.getElem_cons_succ, List.getElem_cons_zero]
  go_simp
  refine hK.out _ _ (hHeld) (fun hHeld => ?_)
  clear hK K
  try simp only [List.getElem_toArray, List.getElem_cons_succ, List.getElem_cons_zero, Act.put, List.setIfInBounds_toArray, List.set_cons_zero, List.set_cons_succ]
  refine wpAnyL_take (i := 18) (v := ?_) rfl (by kernel_rfl) (by kernel_rfl) (by kernel_rfl) (by kernel_rfl) (fun _ _ _ h => h) (Or.inl ⟨rfl, ?_⟩) hHeld ?_
  rotate_left
  · (intro w hSw; (try dsimp only at hSw); go_simp; try (with_reducible rfl))
  simp only [List.getElem_toArray, List.getElem_cons_succ, List.getElem_cons_zero, Act.put, List.setIfInBounds_toArray, List.set_cons_zero, List.set_cons_succ]
  have hf16 : Fr [] W1 w16 := HZ.out.trans F16.out (fun y hy => .inl hy)
  have hd16 := (H.out.fr hf16).head
  have y5 : w16.frozen? ⟨b, 1, none⟩ = false := hd16.frozen 1
  have z5 := hHeld
  have hwd : w.heap.size ≤ wd.heap.size := (F.out.trans HZ.out (fun y hy => .inl hy)).size
  have hw1 : w.heap.size ≤ W1.heap.size := F.out.size
  have hfS : Fr [b] W1 (w16.setCell ⟨b, 1, none⟩ (.slice a2 n2 c2)) := (hf16.mono (by simp)).setCell (.inl (by simp)) _
  have R0 := Lib.hid (HX0.out.fr hfS (by simp; omega))
  have R1 := Lib.hid (HX1.out.fr hfS (by simp; omega))
  have H3 := Lib.hid (⟨hd16.setCell 1 _, own_keep (own_low OWN2.out (by omega)) ((Fr.refl [b] w16).setCell (p := ⟨b, 1, none⟩) (.inl (by simp)) _) (fun y hy hyb => by
    have h1 := (OWN2.out.lt y hy).1
    simp at hyb
    omega), hbl⟩ : RhAt (w16.setCell ⟨b, 1, none⟩ (.slice a2 n2 c2)) b base s (([] ++ L.take i) ++ L.drop (i + 1)) (.slice a2 n2 c2))
  have F3 := Lib.hid ((F.out.mono (T := [b]) (by simp)).trans hfS (fun y hy => .inl hy))
  have V3 := Lib.hid (fun y hy => by have := (OWN2.out.lt y hy).1; have := HX1.out.lt; have := HZ.out.size; omega : ∀ y, (Value.slice a2 n2 c2).ownBlock = some y → w.heap.size + 1 < y)
  clear hf16 hd16 hfS
  refine wpAnyL_ready (rs := [19]) (by kernel_rfl) (by simp) ?_
  refine AllReadyL.end_ rfl (fun K hK => ?_)
  simp only [List.getElem_toArray, List.getElem_cons_succ, List.getElem_cons_zero]
  go_simp
  refine hK.out _ _ ?_
  clear hK K
  try simp only [List.getElem_toArray, List.getElem_cons_succ, List.getElem_cons_zero, Act.put, List.setIfInBounds_toArray, List.set_cons_zero, List.set_cons_succ]
  refine wpAnyL_done (by kernel_rfl) ?_ _
  clear hHeld y5 z5
  generalize w16.setCell ⟨b, 1, none⟩ (.slice a2 n2 c2) = w3 at R0 R1 H3 F3 ⊢
  have f1 : w3.frozen? ⟨w.heap.size, 0, none⟩ = false := R0.out.frozen 0
  have f2 : w3.frozen? ⟨w.heap.size, 1, none⟩ = false := R0.out.frozen 1
  have f3 : w3.frozen? ⟨w.heap.size, 2, none⟩ = false := R0.out.frozen 2
  have r1 : w3.cell? ⟨w.heap.size, 0, none⟩ = some (.int .i64 0) := R0.out.cell 0
  have r2 : w3.cell? ⟨w.heap.size, 1, none⟩ = some (.int .i64 0) := R0.out.cell 1
  have r3 : w3.cell? ⟨w.heap.size, 2, none⟩ = some (.int .i64 0) := R0.out.cell 2
  have t1 : w3.cell? ⟨w.heap.size + 1, 0, none⟩ = some (.int .i64 x.id) := R1.out.cell 0
  have t2 : w3.cell? ⟨w.heap.size + 1, 1, none⟩ = some (.int .i64 x.base) := R1.out.cell 1
  have t3 : w3.cell? ⟨w.heap.size + 1, 2, none⟩ = some (.int .i64 x.since) := R1.out.cell 2
  have RF := Lib.hid (((R0.out.setCell 0 (.int .i64 x.id)).setCell 1 (.int .i64 x.base)).setCell 2 (.int .i64 x.since))
  have FS := Lib.hid ((((Fr.refl [w.heap.size] w3).setCell (p := ⟨w.heap.size, 0, none⟩) (.inl (by simp)) (.int .i64 x.id)).setCell (p := ⟨w.heap.size, 1, none⟩) (.inl (by simp)) (.int .i64 x.base)).setCell (p := ⟨w.heap.size, 2, none⟩) (.inl (by simp)) (.int .i64 x.since))
  go_wp2_with fail
  refine bodyPost_ret (results_cell2 rfl _ _ _ (g := w.heap.size) (cs := [.int .i64 x.id, .int .i64 x.base, .int .i64 x.since]) rfl agg37 size37 (fun j v hj => by rw [Nat.zero_add]; exact (RF.out.cell j).trans hj)) rfl ?_
  refine ⟨rfl, .slice a2 n2 c2, ?_, F3.out.trans FS.out (fun y hy => by simp at hy; exact .inr (by omega)), fun y hy => .inr (by have := V3.out y hy; omega)⟩
  have := H3.out.frS FS.out (by simp; omega) (fun y hy => by have := V3.out y hy; simp; omega)
  rwa [List.nil_append] at this
end Go.Proofs.Ytpjmmhpkiepbmaa
