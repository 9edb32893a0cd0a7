/- Parts of the proof: Tr21. (Merged by pack.py.) -/
import Derived.Test.YtclkahggfdnpgaaDz15
set_option linter.unusedVariables false
set_option linter.unusedSimpArgs false
namespace Go.Proofs.Ytclkahggfdnpgaa
open Go.RowKit
def twE (d : Int) : List EvD := [⟨⟨#[]⟩, ⟨#[]⟩, ⟨#[]⟩, true, false, d⟩]
def twG (d : Int) : FlatD := ⟨none, 1, 0, none, 0, 0, twE d, []⟩
def twF (b : Nat) (d : Int) : FlatD := ⟨some ⟨b, 0, none⟩, 1, 1, none, 0, 0, twE d, []⟩
def twC : List CallD := [⟨0, 0, 1, false⟩]
def twP (b : Nat) : ProgD := ⟨some ⟨b + 1 + 1, 0, none⟩, 2, [twF b 5, twF (b + 1) 3], some ⟨b + 1 + 1 + 1, 0, none⟩, 1, twC⟩
def tw0 : PT := newPT [twG 5, twG 3] twC
def tw1 : PT := (doF tw0 0 0).2.2
def tw2 : PT := (doF tw1 1 0).2.2
def tw3 : PT := (tickF tw2).2
def tw4 : PT := (endF tw3 1).2
def twX : PI := ⟨0, 0, [⟨true, 0, -1⟩], -1, -1⟩
theorem tw_new (b : Nat) : newPT (twP b).Fs (twP b).Cs = tw0 := rfl
theorem tw_may (b : Nat) : mayB (twP b).Fs (twP b).Cs = true := by kernel_rfl
theorem tw_may0 : mayB [] [] = false := by kernel_rfl
theorem tw_do1 : doF tw0 0 0 = (1, 0, tw1) := by kernel_rfl
theorem tw_do2 : doF tw1 0 0 = (0, 17, tw1) := by kernel_rfl
theorem tw_end1 : endF tw1 1 = (11, tw1) := by kernel_rfl
theorem tw_do3 : doF tw1 1 0 = (-1, 0, tw2) := by kernel_rfl
theorem tw_tick : tickF tw2 = (0, tw3) := by kernel_rfl
theorem tw_kids : (tw3.kids 0 (-1)).map (·.id) = [1] := by kernel_rfl
theorem tw_depth : tw3.depth 1 = 1 := by kernel_rfl
theorem tw_slack : tw3.slack = 4 := by kernel_rfl
theorem tw_end2 : endF tw3 0 = (1, tw3) := by kernel_rfl
theorem tw_end3 : endF tw3 1 = (0, tw4) := by kernel_rfl
theorem tw_of0 : tw4.of 0 = some twX := by kernel_rfl
theorem tw_of1 : tw4.of 1 = none := by kernel_rfl
theorem tw_done : tw4.done = true := by kernel_rfl
theorem tw_live : tw4.L.map (·.id) = [0] := by kernel_rfl
def twR (d : Int) : List Value := [.string ⟨#[]⟩, .string ⟨#[]⟩, .string ⟨#[]⟩, .bool true, .bool false, .int .i64 d]
theorem tw_evs {w : World} {b : Nat} {d : Int} (r : Row w b (twR d) 104) : EvsAt w (some ⟨b, 0, none⟩) 1 (twE d) := by
  refine ⟨rfl, ⟨fun _ => ⟨b, 0, rfl, r.lt, fun i hi j v hj => ?_⟩⟩⟩
  obtain rfl : i = 0 := by omega
  rw [show 0 + 0 * 6 + j = j by omega, r.cell j]
  exact hj
theorem tw_flat {w : World} {b : Nat} {d : Int} (r : Row w b (twR d) 104) : FlatAt w (twF b d) :=
  ⟨tw_evs r, ⟨rfl, ⟨fun h => absurd h (by show ¬ 0 < 0; omega)⟩⟩, by show 1 ≤ 100000; omega, by show 0 ≤ 100000; omega⟩
theorem tw_prog {w : World} {b : Nat} (r0 : Row w b (twR 5) 104) (r1 : Row w (b + 1) (twR 3) 104)
    (r2 : Row w (b + 1 + 1) [.slice (some ⟨b, 0, none⟩) 1 1, .slice none 0 0, .slice (some ⟨b + 1, 0, none⟩) 1 1, .slice none 0 0] 25)
    (r3 : Row w (b + 1 + 1 + 1) [.int .i64 0, .int .i64 0, .int .i64 1, .bool false] 97) : ProgAt w (twP b) := by
  refine ⟨⟨fun _ => ⟨b + 1 + 1, 0, rfl, r2.lt, fun i hi j v hj => ?_⟩⟩, fun f hf => ?_, ⟨fun _ => ⟨b + 1 + 1 + 1, 0, rfl, r3.lt, fun i hi j v hj => ?_⟩⟩, by show 2 ≤ 9; omega, by show 1 ≤ 20; omega⟩
  · have hi2 : i < 2 := hi
    have hjl := (List.getElem?_eq_some_iff.1 hj).1
    have hj2 : j < 2 := hjl
    rw [r2.cell]
    rcases (by omega : i = 0 ∨ i = 1) with rfl | rfl <;> rcases (by omega : j = 0 ∨ j = 1) with rfl | rfl <;> exact hj
  · rcases List.mem_cons.1 hf with rfl | hf
    · exact tw_flat r0
    · obtain rfl := List.mem_singleton.1 hf
      exact tw_flat r1
  · have hi1 : i < 1 := hi
    obtain rfl : i = 0 := by omega
    rw [show 0 + 0 * 4 + j = j by omega, r3.cell]
    exact hj
theorem tw_nil (w : World) : ProgAt w ⟨none, 0, [], none, 0, []⟩ := ⟨⟨fun h => absurd h (by show ¬ 0 < 0; omega)⟩, by simp, ⟨fun h => absurd h (by show ¬ 0 < 0; omega)⟩, by show 0 ≤ 9; omega, by show 0 ≤ 20; omega⟩
theorem tw_int (w : World) (k : Int) : IntsAt (w.alloc (.cells #[.int .i64 k] 3)) (some ⟨w.heap.size, 0, none⟩) 1 [k] := by
  refine ⟨rfl, ⟨fun _ => ⟨w.heap.size, 0, rfl, (Row.new w [.int .i64 k] 3).lt, fun i hi j v hj => ?_⟩⟩⟩
  obtain rfl : i = 0 := by omega
  have hj0 : j = 0 := by
    have := (List.getElem?_eq_some_iff.1 hj).1
    simp at this
    exact this
  subst hj0
  exact ((Row.new w [.int .i64 k] 3).cell 0).trans hj
set_option maxHeartbeats 4000000 in
set_option maxRecDepth 100000 in
theorem awake19_any (w : World) : Calls Try.prog 34 #[] w fun e w' => e = .returned (.bool true) ∧ Fr [] w w' := by
  go_enter Try.func34, Try.ntmps34
  go_wp2_with fail
  have r0 := (((((Row.new w (twR 5) 104).alloc (.cells (twR 3).toArray 104)).alloc (.cells #[.slice (some ⟨w.heap.size, 0, none⟩) 1 1, .slice none 0 0, .slice (some ⟨w.heap.size + 1, 0, none⟩) 1 1, .slice none 0 0] 25)).alloc (.cells #[.int .i64 0, .int .i64 0, .int .i64 1, .bool false] 97)).alloc (.cells #[.slice (some ⟨w.heap.size + 1 + 1, 0, none⟩) 2 2, .slice (some ⟨w.heap.size + 1 + 1 + 1, 0, none⟩) 1 1] 62))
  have r1 := ((((Row.new (w.alloc (.cells (twR 5).toArray 104)) (twR 3) 104).alloc (.cells #[.slice (some ⟨w.heap.size, 0, none⟩) 1 1, .slice none 0 0, .slice (some ⟨w.heap.size + 1, 0, none⟩) 1 1, .slice none 0 0] 25)).alloc (.cells #[.int .i64 0, .int .i64 0, .int .i64 1, .bool false] 97)).alloc (.cells #[.slice (some ⟨w.heap.size + 1 + 1, 0, none⟩) 2 2, .slice (some ⟨w.heap.size + 1 + 1 + 1, 0, none⟩) 1 1] 62))
  have r2 := ((Row.new ((w.alloc (.cells (twR 5).toArray 104)).alloc (.cells (twR 3).toArray 104)) [.slice (some ⟨w.heap.size, 0, none⟩) 1 1, .slice none 0 0, .slice (some ⟨w.heap.size + 1, 0, none⟩) 1 1, .slice none 0 0] 25).alloc (.cells #[.int .i64 0, .int .i64 0, .int .i64 1, .bool false] 97)).alloc (.cells #[.slice (some ⟨w.heap.size + 1 + 1, 0, none⟩) 2 2, .slice (some ⟨w.heap.size + 1 + 1 + 1, 0, none⟩) 1 1] 62)
  have r3 := (Row.new (((w.alloc (.cells (twR 5).toArray 104)).alloc (.cells (twR 3).toArray 104)).alloc (.cells #[.slice (some ⟨w.heap.size, 0, none⟩) 1 1, .slice none 0 0, .slice (some ⟨w.heap.size + 1, 0, none⟩) 1 1, .slice none 0 0] 25)) [.int .i64 0, .int .i64 0, .int .i64 1, .bool false] 97).alloc (.cells #[.slice (some ⟨w.heap.size + 1 + 1, 0, none⟩) 2 2, .slice (some ⟨w.heap.size + 1 + 1 + 1, 0, none⟩) 1 1] 62)
  have r4 := Row.new ((((w.alloc (.cells (twR 5).toArray 104)).alloc (.cells (twR 3).toArray 104)).alloc (.cells #[.slice (some ⟨w.heap.size, 0, none⟩) 1 1, .slice none 0 0, .slice (some ⟨w.heap.size + 1, 0, none⟩) 1 1, .slice none 0 0] 25)).alloc (.cells #[.int .i64 0, .int .i64 0, .int .i64 1, .bool false] 97)) [.slice (some ⟨w.heap.size + 1 + 1, 0, none⟩) 2 2, .slice (some ⟨w.heap.size + 1 + 1 + 1, 0, none⟩) 1 1] 62
  have f0 := (((((Fr.refl [] w).alloc (.cells (twR 5).toArray 104)).alloc (.cells (twR 3).toArray 104)).alloc (.cells #[.slice (some ⟨w.heap.size, 0, none⟩) 1 1, .slice none 0 0, .slice (some ⟨w.heap.size + 1, 0, none⟩) 1 1, .slice none 0 0] 25)).alloc (.cells #[.int .i64 0, .int .i64 0, .int .i64 1, .bool false] 97)).alloc (.cells #[.slice (some ⟨w.heap.size + 1 + 1, 0, none⟩) 2 2, .slice (some ⟨w.heap.size + 1 + 1 + 1, 0, none⟩) 1 1] 62)
  have e1 : (w.alloc (.cells (twR 5).toArray 104)).heap.size = w.heap.size + 1 := by simp
  have e2 : ((w.alloc (.cells (twR 5).toArray 104)).alloc (.cells (twR 3).toArray 104)).heap.size = w.heap.size + 1 + 1 := by simp
  have e3 : (((w.alloc (.cells (twR 5).toArray 104)).alloc (.cells (twR 3).toArray 104)).alloc (.cells #[.slice (some ⟨w.heap.size, 0, none⟩) 1 1, .slice none 0 0, .slice (some ⟨w.heap.size + 1, 0, none⟩) 1 1, .slice none 0 0] 25)).heap.size = w.heap.size + 1 + 1 + 1 := by simp
  have e4 : ((((w.alloc (.cells (twR 5).toArray 104)).alloc (.cells (twR 3).toArray 104)).alloc (.cells #[.slice (some ⟨w.heap.size, 0, none⟩) 1 1, .slice none 0 0, .slice (some ⟨w.heap.size + 1, 0, none⟩) 1 1, .slice none 0 0] 25)).alloc (.cells #[.int .i64 0, .int .i64 0, .int .i64 1, .bool false] 97)).heap.size = w.heap.size + 1 + 1 + 1 + 1 := by simp
  rw [e1] at r1
  rw [e2] at r2
  rw [e3] at r3
  rw [e4] at r4
  clear e1 e2 e3 e4
  have PR := Lib.hid (tw_prog r0 r1 r2 r3)
  have RB := Lib.hid r4
  have F0 := Lib.hid f0
  have HB := Lib.hid r4.lt
  clear r0 r1 r2 r3 r4 f0
  change Calls _ _ _ ((((w.alloc (.cells (twR 5).toArray 104)).alloc (.cells (twR 3).toArray 104)).alloc (.cells #[.slice (some ⟨w.heap.size, 0, none⟩) 1 1, .slice none 0 0, .slice (some ⟨w.heap.size + 1, 0, none⟩) 1 1, .slice none 0 0] 25)).alloc (.cells #[.int .i64 0, .int .i64 0, .int .i64 1, .bool false] 97) |>.alloc (.cells #[.slice (some ⟨w.heap.size + 1 + 1, 0, none⟩) 2 2, .slice (some ⟨w.heap.size + 1 + 1 + 1, 0, none⟩) 1 1] 62)) _
  generalize ((((w.alloc (.cells (twR 5).toArray 104)).alloc (.cells (twR 3).toArray 104)).alloc (.cells #[.slice (some ⟨w.heap.size, 0, none⟩) 1 1, .slice none 0 0, .slice (some ⟨w.heap.size + 1, 0, none⟩) 1 1, .slice none 0 0] 25)).alloc (.cells #[.int .i64 0, .int .i64 0, .int .i64 1, .bool false] 97)).alloc (.cells #[.slice (some ⟨w.heap.size + 1 + 1, 0, none⟩) 2 2, .slice (some ⟨w.heap.size + 1 + 1 + 1, 0, none⟩) 1 1] 62) = w0 at *
  have C1 := new_is (twP w.heap.size) w0 PR.out (by intro f hf; rcases List.mem_cons.1 hf with rfl | hf; exact (by show 1 ≤ 10; omega); obtain rfl := List.mem_singleton.1 hf; exact (by show 1 ≤ 10; omega))
  refine C1.mono ?_
  rintro e w1 (⟨hm, _⟩ | ⟨_, tb, hi, S1, rfl, hIS, hG, hS, hF⟩)
  · rw [tw_may] at hm; cases hm
  rw [tw_new] at hIS hG
  have IS1 := Lib.hid hIS
  have G0 := Lib.hid hG
  have HS1 := Lib.hid hS
  have F1 := Lib.hid hF
  clear hIS hG hS hF C1
  have C2 := new_is ⟨none, 0, [], none, 0, []⟩ w1 (tw_nil w1) (by simp)
  change Calls Try.prog 37 #[.agg #[.slice none 0 0, .slice none 0 0]] _ _ at C2
  go_wp2_with fail
  refine C2.mono ?_
  rintro e w2 (⟨_, rfl, hF⟩ | ⟨hm, _⟩)
  rotate_left
  · rw [show mayB [] [] = false from tw_may0] at hm; cases hm
  have IS2 := Lib.hid (IS1.out.fr hF)
  have HS2 := HS1
  have F2 := Lib.hid (F1.out.trans hF (by simp))
  clear hF C2
  have G1 := Lib.hid (by have := G0.out.doF 0 0; rw [tw_do1] at this; exact this : GoodP tw1 2)
  have G2 := Lib.hid (by have := G1.out.doF 1 0; rw [tw_do3] at this; exact this : GoodP tw2 3)
  have G3 := Lib.hid (by have := G2.out.tickF; rw [tw_tick] at this; exact this : GoodP tw3 3)
  have G4 := Lib.hid (by have := G3.out.endF 1; rw [tw_end3] at this; exact this : GoodP tw4 3)
  have C := do_is IS2.out G0.out (by omega) 0 0
  rw [tw_do1] at C
  go_wp2_with fail
  refine C.mono ?_
  rintro e w3 ⟨rfl, hN⟩
  obtain ⟨S3, hIS, hF, hS⟩ := hN
  have IS3 := Lib.hid hIS
  have HS3 := Lib.hid (fun y hy => (by rcases hS y hy with h | h; exact HS2.out y h; exact Nat.le_trans F2.out.size h) : ∀ y ∈ S3, w0.heap.size ≤ y)
  have F3 := Lib.hid (F2.out.trans hF (fun y hy => .inr (HS2.out y hy)))
  clear hIS hF hS C
  have C := do_is IS3.out G1.out (by omega) 0 0
  rw [tw_do2] at C
  go_wp2_with fail
  refine C.mono ?_
  rintro e w4 ⟨rfl, hN⟩
  obtain ⟨S4, hIS, hF, hS⟩ := hN
  have IS4 := Lib.hid hIS
  have HS4 := Lib.hid (fun y hy => (by rcases hS y hy with h | h; exact HS3.out y h; exact Nat.le_trans F3.out.size h) : ∀ y ∈ S4, w0.heap.size ≤ y)
  have F4 := Lib.hid (F3.out.trans hF (fun y hy => .inr (HS3.out y hy)))
  clear hIS hF hS C
  have C := end_is IS4.out G1.out (by omega) 1
  rw [tw_end1] at C
  go_wp2_with fail
  refine C.mono ?_
  rintro e w5 ⟨rfl, hN⟩
  obtain ⟨S5, hIS, hF, hS⟩ := hN
  have IS5 := Lib.hid hIS
  have HS5 := Lib.hid (fun y hy => (by rcases hS y hy with h | h; exact HS4.out y h; exact Nat.le_trans F4.out.size h) : ∀ y ∈ S5, w0.heap.size ≤ y)
  have F5 := Lib.hid (F4.out.trans hF (fun y hy => .inr (HS4.out y hy)))
  clear hIS hF hS C
  have C := do_is IS5.out G1.out (by omega) 1 0
  rw [tw_do3] at C
  go_wp2_with fail
  refine C.mono ?_
  rintro e w6 ⟨rfl, hN⟩
  obtain ⟨S6, hIS, hF, hS⟩ := hN
  have IS6 := Lib.hid hIS
  have HS6 := Lib.hid (fun y hy => (by rcases hS y hy with h | h; exact HS5.out y h; exact Nat.le_trans F5.out.size h) : ∀ y ∈ S6, w0.heap.size ≤ y)
  have F6 := Lib.hid (F5.out.trans hF (fun y hy => .inr (HS5.out y hy)))
  clear hIS hF hS C
  have C := tick_is IS6.out G2.out (by omega)
  rw [tw_tick] at C
  go_wp2_with fail
  refine C.mono ?_
  rintro e w7 ⟨rfl, hN⟩
  obtain ⟨S7, hIS, hF, hS⟩ := hN
  have IS7 := Lib.hid hIS
  have HS7 := Lib.hid (fun y hy => (by rcases hS y hy with h | h; exact HS6.out y h; exact Nat.le_trans F6.out.size h) : ∀ y ∈ S7, w0.heap.size ≤ y)
  have F7 := Lib.hid (F6.out.trans hF (fun y hy => .inr (HS6.out y hy)))
  clear hIS hF hS C
  have C := children_is IS7.out 0
  rw [tw_kids] at C
  go_wp2_with fail
  refine C.mono ?_
  rintro e w8 ⟨al, cl, rfl, hfr, hI, hF⟩
  have L8 := Lib.hid hI
  have LA8 := Lib.hid (Apart.new IS7.out (fun g o _ he => hfr g o he) hI.2.lt)
  clear hI hfr
  have IS8 := Lib.hid (IS7.out.fr hF)
  have HS8 := HS7
  have F8 := Lib.hid (F7.out.trans hF (by simp))
  clear hF C
  have C := depth_is IS8.out G3.out (by omega) 1
  rw [tw_depth] at C
  go_wp2_with fail
  refine C.mono ?_
  rintro e w9 ⟨rfl, hF⟩
  have IS9 := Lib.hid (IS8.out.fr hF)
  have HS9 := HS8
  have F9 := Lib.hid (F8.out.trans hF (by simp))
  have L9 := Lib.hid (L8.out.fr hF)
  have LA9 := Lib.hid (LA8.out.fr hF)
  clear hF C
  have C := slack_is IS9.out G3.out (by omega)
  rw [tw_slack] at C
  go_wp2_with fail
  refine C.mono ?_
  rintro e w10 ⟨rfl, hF⟩
  have IS10 := Lib.hid (IS9.out.fr hF)
  have HS10 := HS9
  have F10 := Lib.hid (F9.out.trans hF (by simp))
  have L10 := Lib.hid (L9.out.fr hF)
  have LA10 := Lib.hid (LA9.out.fr hF)
  clear hF C
  have C := end_is IS10.out G3.out (by omega) 0
  rw [tw_end2] at C
  go_wp2_with fail
  refine C.mono ?_
  rintro e w11 ⟨rfl, hN⟩
  obtain ⟨S11, hIS, hF, hS⟩ := hN
  have IS11 := Lib.hid hIS
  have HS11 := Lib.hid (fun y hy => (by rcases hS y hy with h | h; exact HS10.out y h; exact Nat.le_trans F10.out.size h) : ∀ y ∈ S11, w0.heap.size ≤ y)
  have F11 := Lib.hid (F10.out.trans hF (fun y hy => .inr (HS10.out y hy)))
  have L11 := Lib.hid (L10.out.next hF LA10.out)
  have LA11 := Lib.hid (LA10.out.next hF hS)
  clear hIS hF hS C
  have C := end_is IS11.out G3.out (by omega) 1
  rw [tw_end3] at C
  go_wp2_with fail
  refine C.mono ?_
  rintro e w12 ⟨rfl, hN⟩
  obtain ⟨S12, hIS, hF, hS⟩ := hN
  have IS12 := Lib.hid hIS
  have HS12 := Lib.hid (fun y hy => (by rcases hS y hy with h | h; exact HS11.out y h; exact Nat.le_trans F11.out.size h) : ∀ y ∈ S12, w0.heap.size ≤ y)
  have F12 := Lib.hid (F11.out.trans hF (fun y hy => .inr (HS11.out y hy)))
  have L12 := Lib.hid (L11.out.next hF LA11.out)
  have LA12 := Lib.hid (LA11.out.next hF hS)
  clear hIS hF hS C
  have C := mark_is IS12.out G4.out (by omega) 0
  go_wp2_with fail
  refine C.mono ?_
  rintro e w13 (⟨hm, _⟩ | ⟨x, hx, am, cm, rfl, hM, hfr, hF⟩)
  · rw [tw_of0] at hm; cases hm
  rw [tw_of0] at hx
  cases hx
  rw [show twX.m.length = 1 from rfl]
  have M13 := Lib.hid (show MarksAt w13 am 1 [⟨true, 0, -1⟩] from hM)
  have MA13 := Lib.hid (Apart.new IS12.out hfr hM.2.lt)
  clear hM hfr
  have IS13 := Lib.hid (IS12.out.fr hF)
  have HS13 := HS12
  have F13 := Lib.hid (F12.out.trans hF (by simp))
  have L13 := Lib.hid (L12.out.fr hF)
  have LA13 := Lib.hid (LA12.out.fr hF)
  clear hF C
  have C := mark_is IS13.out G4.out (by omega) 1
  go_wp2_with fail
  refine C.mono ?_
  rintro e w14 (⟨_, rfl, hF⟩ | ⟨x, hx, _⟩)
  rotate_left
  · rw [tw_of1] at hx; cases hx
  have IS14 := Lib.hid (IS13.out.fr hF)
  have HS14 := HS13
  have F14 := Lib.hid (F13.out.trans hF (by simp))
  have L14 := Lib.hid (L13.out.fr hF)
  have LA14 := Lib.hid (LA13.out.fr hF)
  have M14 := Lib.hid (M13.out.fr hF)
  have MA14 := Lib.hid (MA13.out.fr hF)
  clear hF C
  have L14' := Lib.hid (show IntsAt w14 al 1 [1] from L14.out)
  obtain ⟨mb, mo, rfl, hmb, hmc⟩ := M14.out.2.at_ (by decide)
  have m0 : w14.cell? ⟨mb, mo, none⟩ = some (.bool true) := by have := hmc 0 (by decide) 0 _ rfl; simpa using this
  have m1 : w14.cell? ⟨mb, mo + 1, none⟩ = some (.int .i64 0) := by have := hmc 0 (by decide) 1 _ rfl; simpa using this
  have m2 : w14.cell? ⟨mb, mo + 2, none⟩ = some (.int .i64 (-1)) := by have := hmc 0 (by decide) 2 _ rfl; simpa using this
  have RB14 := Lib.hid (RB.out.fr F14.out (by simp))
  have G4' := G4
  clear hmb hmc L8 L9 L10 L11 L12 L13 L14 LA8 LA9 LA10 LA11 LA12 LA13 LA14 M13 MA13 M14 MA14 IS1 IS2 IS3 IS4 IS5 IS6 IS7 IS8 IS9 IS10 IS11 IS12 IS13 HS1 HS2 HS3 HS4 HS5 HS6 HS7 HS8 HS9 HS10 HS11 HS12 HS13 F1 F2 F3 F4 F5 F6 F7 F8 F9 F10 F11 F12 F13 G0 G1 G2 G3
  have A1 := Lib.hid ((Fr.refl [] w14).alloc (.cells #[.int .i64 1] 3))
  have C := isame_any al (some ⟨w14.heap.size, 0, none⟩) 1 1 cl 1 [1] [1] _ (by omega) (by omega) (L14'.out.fr A1.out) (tw_int w14 1)
  rw [show decide (([1] : List Int) = [1]) = true from rfl] at C
  go_wp2_with fail
  refine C.mono ?_
  rintro e w15 ⟨rfl, hF⟩
  have F15 := Lib.hid (A1.out.trans hF (by simp))
  have x0 := cell_fr' m0 F15.out
  have x1 := cell_fr' m1 F15.out
  have x2 := cell_fr' m2 F15.out
  clear hF C A1 m0 m1 m2 L14'
  have C := done_is (IS14.out.fr F15.out) G4.out (by omega)
  rw [tw_done] at C
  go_wp2_with fail
  refine C.mono ?_
  rintro e w16 ⟨rfl, hF⟩
  have F16 := Lib.hid (F15.out.trans hF (by simp))
  clear hF C x0 x1 x2
  have C := live_is (IS14.out.fr F16.out)
  rw [tw_live] at C
  go_wp2_with fail
  refine C.mono ?_
  rintro e w17 ⟨a3, c3, rfl, hfr, hI, hF⟩
  rw [show ([0] : List Int).length = 1 from rfl]
  have F17 := Lib.hid (F16.out.trans hF (by simp))
  have L17 := Lib.hid (show IntsAt w17 a3 1 [0] from hI)
  clear hF C hI hfr
  have A1 := Lib.hid ((Fr.refl [] w17).alloc (.cells #[.int .i64 0] 3))
  have C := isame_any a3 (some ⟨w17.heap.size, 0, none⟩) 1 1 c3 1 [0] [0] _ (by omega) (by omega) (L17.out.fr A1.out) (tw_int w17 0)
  rw [show decide (([0] : List Int) = [0]) = true from rfl] at C
  go_wp2_with fail
  refine C.mono ?_
  rintro e w18 ⟨rfl, hF⟩
  have F18 := Lib.hid ((F17.out.trans A1.out (by simp)).trans hF (by simp))
  have RB18 := Lib.hid (RB14.out.fr F18.out (by simp))
  have x0 := RB18.out.cell 0
  have x1 := RB18.out.cell 1
  have C9 := may_any (twP w.heap.size) w18 ((PR.out.fr F14.out).fr F18.out)
  rw [tw_may] at C9
  change Calls Try.prog 39 #[.agg #[.slice (some ⟨w.heap.size + 1 + 1, 0, none⟩) 2 2, .slice (some ⟨w.heap.size + 1 + 1 + 1, 0, none⟩) 1 1]] _ _ at C9
  clear hF C A1 L17
  go_wp2_with fail
  refine C9.mono ?_
  rintro e w19 ⟨rfl, hF⟩
  have F19 := Lib.hid (F18.out.trans hF (by simp))
  clear hF C9
  go_wp2_with fail
  go_ret
  exact ⟨rfl, (F0.out.trans F14.out (by simp)).trans F19.out (by simp)⟩
end Go.Proofs.Ytclkahggfdnpgaa
