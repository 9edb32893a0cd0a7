/- The calls whose answers the document fixes: awake. -/
import Derived.Test.YtpjmmhpkiepbmaaHp14
import Derived.Test.YtpjmmhpkiepbmaaHp15
set_option linter.unusedVariables false
set_option linter.unusedSimpArgs false
namespace Go.Proofs.Ytpjmmhpkiepbmaa
open Go.RowKit
abbrev w1I : ItD := ⟨1, 0, 0⟩
abbrev w2I : ItD := ⟨2, 1, 5⟩
abbrev w3I : ItD := ⟨3, 1, 20⟩
theorem aw_e1 : putE [] w1I = 0 := by decide
theorem aw_e2 : putE [w1I] w2I = 0 := by decide
theorem aw_e3 : putE [w2I, w1I] w3I = 0 := by decide
theorem aw_e4 : putE [w2I, w1I, w3I] w1I = 6 := by decide
theorem aw_e5 : putE [w2I, w1I, w3I] ⟨9, 10, 0⟩ = 3 := by decide
theorem aw_l1 : putL 10 [] w1I = [w1I] := by
  unfold putL; rw [if_pos aw_e1, upL]; rfl
theorem aw_l2 : putL 10 [w1I] w2I = [w2I, w1I] := by
  unfold putL; rw [if_pos aw_e2, upL, dif_pos (by decide), upL, dif_neg (by decide)]; rfl
theorem aw_l3 : putL 10 [w2I, w1I] w3I = [w2I, w1I, w3I] := by
  unfold putL; rw [if_pos aw_e3, upL, dif_neg (by decide)]; rfl
theorem aw_p : popL 10 [w2I, w1I, w3I] = [w1I, w3I] := by
  unfold popL remL
  rw [if_pos (by decide), if_pos (by decide), show cutL [w2I, w1I, w3I] 0 = [w3I, w1I] by rfl, upL, dif_neg (by decide), downL, dif_pos (by decide), downL, dif_neg (by decide)]
  rfl
theorem aw_r : rmL 10 [w1I, w3I] 3 = [w1I] := by
  unfold rmL remL
  rw [if_pos (by decide), if_neg (by decide)]
  rfl

theorem aw_w : weightAt 10 [w2I, w1I, w3I] 2 7 = 12 ∧ hasI [w2I, w1I, w3I] 2 = true := by decide
theorem aw_h : hasI [w1I, w3I] 3 = true ∧ remX [w1I, w3I] 3 = w3I ∧ hasI [w1I] 1 = true ∧ hasI [w1I] 2 = false := by decide
theorem aw_s {D : List ItD} (hp : D.Perm [w2I, w1I, w3I]) (hs : Srt 10 D) : D = [w2I, w1I, w3I] := by
  refine srt_unique (s := 10) (fun x hx y hy he => ?_) hp hs ?_
  · have hx' := hp.mem_iff.1 hx
    have hy' := hp.mem_iff.1 hy
    simp only [List.mem_cons, List.not_mem_nil, or_false] at hx' hy'
    rcases hx' with rfl | rfl | rfl <;> rcases hy' with rfl | rfl | rfl <;> first | rfl | (exact absurd he (by decide))
  · unfold Srt
    simp only [List.pairwise_cons, List.mem_cons, List.not_mem_nil, or_false]
    refine ⟨?_, ?_, ?_, List.Pairwise.nil⟩ <;> intro y hy
    · rcases hy with rfl | rfl <;> decide
    · rcases hy with rfl; decide
    · cases hy
theorem items3 {w : World} {a : Option Addr} {x y z : ItD} (h : ItemsAt w a 3 [x, y, z]) : ∃ g o, a = some ⟨g, o, none⟩ ∧ w.cell? ⟨g, o, none⟩ = some (.int .i64 x.id) ∧ w.cell? ⟨g, o + 3, none⟩ = some (.int .i64 y.id) := by
  obtain ⟨g, o, rfl, hc⟩ := h.at_ (by omega)
  exact ⟨g, o, rfl, hc 0 _ rfl, hc 3 _ rfl⟩
set_option maxRecDepth 100000 in
set_option maxHeartbeats 4000000 in
theorem awake_any (w : World) : Calls Try.prog 7 #[] w fun e w' => e = .returned (.bool true) ∧ Fr [] w w' := by
  obtain ⟨E, hE, hE0, hEg⟩ := intE_ex
  go_enter Try.func7, Try.ntmps7
  go_wp2_with fail
  refine (new_c E 10 _ (by unfold stepOk; omega)).mono ?_
  rintro e w1 ⟨rfl, h1, f1, hs1⟩
  have H1 := Lib.hid h1
  have F1 := Lib.hid f1
  clear h1 f1 hs1
  go_wp2_with fail
  refine (new_bad 0 _ (by unfold stepOk; omega)).mono ?_
  rintro e w2 ⟨rfl, hw2⟩
  rw [← hw2]
  clear hw2
  go_wp2_with fail
  have C := peek_c H1.out
  rw [show topX [] = default from rfl, show nonB [] = false from rfl] at C
  simp only [ItD.val, show (default : ItD).id = 0 from rfl, show (default : ItD).base = 0 from rfl, show (default : ItD).since = 0 from rfl] at C
  refine C.mono ?_
  rintro e w3 ⟨rfl, f3⟩
  have f3' := f3.alloc (.cells #[.int .i64 0, .int .i64 0, .int .i64 0] 32)
  have H3 := Lib.hid (H1.out.fr f3')
  have F3 := Lib.hid (F1.out.trans f3' (fun y hy => .inl hy))
  clear f3 f3' C
  go_wp2_with fail
  have C := put_c hE hEg H3.out w1I (by unfold inI; decide) (by omega)
  rw [aw_e1] at C
  simp only [ItD.val] at C
  refine C.mono ?_
  rintro e w4 ⟨rfl, N⟩
  obtain ⟨n4, v4, hn4, h, f⟩ := HSN.next H3.out N F3.out (by omega) (by omega) (by omega)
  rw [aw_l1] at h
  have H4 := Lib.hid h
  have F4 := Lib.hid f
  clear C N h f
  go_wp2_with fail
  have C := put_c hE hEg H4.out w2I (by unfold inI; decide) (by omega)
  rw [aw_e2] at C
  simp only [ItD.val] at C
  refine C.mono ?_
  rintro e w5 ⟨rfl, N⟩
  obtain ⟨n5, v5, hn5, h, f⟩ := HSN.next H4.out N F4.out (by omega) (by omega) (by omega)
  rw [aw_l2] at h
  have H5 := Lib.hid h
  have F5 := Lib.hid f
  clear C N h f
  go_wp2_with fail
  have C := put_c hE hEg H5.out w3I (by unfold inI; decide) (by omega)
  rw [aw_e3] at C
  simp only [ItD.val] at C
  refine C.mono ?_
  rintro e w6 ⟨rfl, N⟩
  obtain ⟨n6, v6, hn6, h, f⟩ := HSN.next H5.out N F5.out (by omega) (by omega) (by omega)
  rw [aw_l3] at h
  have H6 := Lib.hid h
  have F6 := Lib.hid f
  clear C N h f
  go_wp2_with fail
  have C := put_c hE hEg H6.out w1I (by unfold inI; decide) (by omega)
  rw [aw_e4] at C
  simp only [ItD.val] at C
  refine C.mono ?_
  rintro e w7 ⟨rfl, N⟩
  obtain ⟨n7, v7, hn7, h, f⟩ := HSN.next H6.out N F6.out (by omega) (by omega) (by omega)
  rw [putL_same (by rw [aw_e4]; decide)] at h
  have H7 := Lib.hid h
  have F7 := Lib.hid f
  clear C N h f
  go_wp2_with fail
  have C := put_c hE hEg H7.out ⟨9, 10, 0⟩ (by unfold inI; decide) (by omega)
  rw [aw_e5] at C
  simp only [ItD.val] at C
  refine C.mono ?_
  rintro e w8 ⟨rfl, N⟩
  obtain ⟨n8, v8, hn8, h, f⟩ := HSN.next H7.out N F7.out (by omega) (by omega) (by omega)
  rw [putL_same (by rw [aw_e5]; decide)] at h
  have H8 := Lib.hid h
  have F8 := Lib.hid f
  clear C N h f
  go_wp2_with fail
  refine (list_any E _ _ _ _ _ _ _ _ H8.out.at_ H8.out.good).mono ?_
  rintro e w9 ⟨a, c, D, rfl, hp, hsr, hia, hfresh, hf⟩
  obtain rfl := aw_s hp hsr
  obtain ⟨gd, od, rfl, y0, y1⟩ := items3 hia
  have hgd := hfresh gd od rfl
  have hlow := H8.out.low
  have hbw8 := F8.out.size
  have NV := Lib.hid (fun y hy hyg => by have := (H8.out.at_.row.lt y hy).2; omega : ∀ y, v8.ownBlock = some y → y ≠ gd)
  clear hfresh
  have H9 := Lib.hid (H8.out.fr hf)
  have F9 := Lib.hid (F8.out.trans hf (fun y hy => .inl hy))
  have Y0 := Lib.hid y0
  have Y1 := Lib.hid y1
  clear hp hsr hia hf y0 y1
  have C := weight_any E hE hE0 _ _ _ _ _ _ _ 2 7 _ H9.out.at_ H9.out.good (by unfold inI; decide)
  rw [aw_w.1, show (posM [w2I, w1I, w3I] 2).isSome = true from aw_w.2] at C
  go_wp2_with fail
  refine C.mono ?_
  rintro e w10 ⟨rfl, hf⟩
  have H10 := Lib.hid (H9.out.fr hf)
  have F10 := Lib.hid (F9.out.trans hf (fun y hy => .inl hy))
  have Z0 := Lib.hid (cell_fr Y0.out hf)
  have Z1 := Lib.hid (cell_fr Y1.out hf)
  clear hf C
  have C := pop_c hE hE0 hEg H10.out (by omega)
  rw [show topX [w2I, w1I, w3I] = w2I from rfl, show nonB [w2I, w1I, w3I] = true from rfl] at C
  simp only [ItD.val] at C
  go_wp2_with fail
  refine C.mono ?_
  rintro e w11 ⟨rfl, N⟩
  have hgw : gd < w10.heap.size := World.block_lt_of_cell? _ _ Z0.out
  obtain ⟨n11, v11, hn11, h11, f11, ho11⟩ := N
  have hg11 : gd ∉ (w.heap.size + 1) :: w.heap.size :: v8.ownBlock.toList := by
    intro hy
    simp only [List.mem_cons, Option.mem_toList] at hy
    rcases hy with hy | hy | hy
    · omega
    · omega
    · exact NV.out gd hy rfl
  have NV11 := Lib.hid (fun y hy hyg => by
    rcases ho11 with h5 | ⟨k, h5, h6⟩
    · exact NV.out y (h5 ▸ hy) hyg
    · rw [h5] at hy; cases hy; omega : ∀ y, v11.ownBlock = some y → y ≠ gd)
  have F11 := Lib.hid (F10.out.trans f11 (fun y hy => by
    simp only [List.mem_cons, Option.mem_toList] at hy
    rcases hy with rfl | rfl | hy
    · exact .inr (by omega)
    · exact .inr (by omega)
    · exact .inr (by have := (H10.out.at_.row.lt y hy).1; omega)))
  rw [aw_p] at h11
  have H11 := Lib.hid h11
  have A0 := Lib.hid (show w11.cell? ⟨gd, od, none⟩ = some (.int .i64 2) by rw [World.cell?_of_block (f11.block gd hgw hg11)]; exact Z0.out)
  have A1 := Lib.hid (show w11.cell? ⟨gd, od + 3, none⟩ = some (.int .i64 1) by rw [World.cell?_of_block (f11.block gd hgw hg11)]; exact Z1.out)
  have fa := (Fr.refl [] w11).alloc (.cells #[.int .i64 2, .int .i64 1, .int .i64 5] 32)
  have H12 := Lib.hid (H11.out.fr fa)
  have F12 := Lib.hid (F11.out.trans fa (fun y hy => .inl hy))
  have B0 := Lib.hid (cell_fr A0.out fa)
  have B1 := Lib.hid (cell_fr A1.out fa)
  have X0 := Lib.hid (Row.new w11 [.int .i64 2, .int .i64 1, .int .i64 5] 32)
  have hsz : (w11.alloc (.cells #[.int .i64 2, .int .i64 1, .int .i64 5] 32)).heap.size = w11.heap.size + 1 := by simp
  have hw11 := F11.out.size
  have NX := Lib.hid (fun y hy hyg => by have := (H11.out.at_.row.lt y hy).2; omega : ∀ y, v11.ownBlock = some y → y ≠ w11.heap.size)
  have hg1112 : gd < w11.heap.size := World.block_lt_of_cell? _ _ A0.out
  clear h11 f11 ho11 hg11 fa C
  go_wp2_with fail
  have C := rem_c hE hE0 hEg H12.out 3 (by unfold inI; decide) (by omega)
  rw [aw_h.1, aw_h.2.1] at C
  simp only [ItD.val] at C
  refine C.mono ?_
  rintro e w13 ⟨rfl, N⟩
  obtain ⟨n13, v13, hn13, h13, f13, _⟩ := N
  have hlow11 := H11.out.low
  have hg13 : gd ∉ (w.heap.size + 1) :: w.heap.size :: v11.ownBlock.toList := by
    intro hy
    simp only [List.mem_cons, Option.mem_toList] at hy
    rcases hy with hy | hy | hy
    · omega
    · omega
    · exact NV11.out gd hy rfl
  have hx13 : w11.heap.size ∉ (w.heap.size + 1) :: w.heap.size :: v11.ownBlock.toList := by
    intro hy
    simp only [List.mem_cons, Option.mem_toList] at hy
    rcases hy with hy | hy | hy
    · omega
    · omega
    · exact NX.out _ hy rfl
  have F13 := Lib.hid (F12.out.trans f13 (fun y hy => by
    simp only [List.mem_cons, Option.mem_toList] at hy
    rcases hy with rfl | rfl | hy
    · exact .inr (by omega)
    · exact .inr (by omega)
    · exact .inr (by have := (H12.out.at_.row.lt y hy).1; omega)))
  rw [aw_r] at h13
  have hy0 : w13.cell? ⟨gd, od, none⟩ = some (.int .i64 2) := by rw [World.cell?_of_block (f13.block gd (by omega) hg13)]; exact B0.out
  have hy1 : w13.cell? ⟨gd, od + 3, none⟩ = some (.int .i64 1) := by rw [World.cell?_of_block (f13.block gd (by omega) hg13)]; exact B1.out
  have fb := (Fr.refl [] w13).alloc (.cells #[.int .i64 3, .int .i64 1, .int .i64 20] 32)
  have H14 := Lib.hid (h13.fr fb)
  have F14 := Lib.hid (F13.out.trans fb (fun y hy => .inl hy))
  have x0 : (w13.alloc (.cells #[.int .i64 3, .int .i64 1, .int .i64 20] 32)).cell? ⟨w11.heap.size, 0, none⟩ = some (.int .i64 2) := cell_fr ((X0.out.fr f13 hx13).cell 0) fb
  have y0 := cell_fr hy0 fb
  have y1 := cell_fr hy1 fb
  have CL := fun w' (f : Fr [] (w13.alloc (.cells #[.int .i64 3, .int .i64 1, .int .i64 20] 32)) w') => hlen_any E _ _ _ _ _ _ _ _ (H14.out.fr f).at_
  have CH := fun id hid w' (f : Fr [] (w13.alloc (.cells #[.int .i64 3, .int .i64 1, .int .i64 20] 32)) w') => has_any E _ _ _ _ _ _ _ _ (H14.out.fr f).at_ id hid
  have HL := Lib.hid CL
  have HH := Lib.hid CH
  clear C h13 f13 hg13 hx13 hy0 hy1 fb CL CH hlow11 hsz
  go_wp2_with fail
  refine (HL.out _ (Fr.refl [] _)).mono ?_
  rintro e w15 ⟨rfl, hw15⟩
  rw [← hw15]
  clear hw15
  have C := HH.out 1 (by unfold inI; decide) _ (Fr.refl [] _)
  rw [show (posM [w1I] 1).isSome = true from aw_h.2.2.1] at C
  go_wp2_with fail
  refine C.mono ?_
  rintro e w16 ⟨rfl, hw16⟩
  rw [← hw16]
  clear hw16 C
  have C := HH.out 2 (by unfold inI; decide) _ (Fr.refl [] _)
  rw [show (posM [w1I] 2).isSome = false from aw_h.2.2.2] at C
  go_wp2_with fail
  refine C.mono ?_
  rintro e w17 ⟨rfl, hw17⟩
  rw [← hw17]
  clear hw17 C
  go_wp2_with fail
  go_ret
  exact ⟨rfl, F14.out⟩
end Go.Proofs.Ytpjmmhpkiepbmaa
