/- Whatever is put and taken is as the document says: the law. -/
import Derived.Test.YtpjmmhpkiepbmaaHpA
import Derived.Test.YtpjmmhpkiepbmaaHpOpen
import Derived.Test.YtpjmmhpkiepbmaaRH6
import Derived.Deep.CutBlock
import Derived.Deep.DeepCutAuto
set_option linter.unusedVariables false
set_option linter.unusedSimpArgs false
namespace Go.Proofs.Ytpjmmhpkiepbmaa
open Go.RowKit
set_option maxRecDepth 100000 in
set_option maxHeartbeats 16000000 in
theorem heapDoes_walk (a0 : Int) (a1 : Option Addr) (len1 cap1 : Nat) (L1 : List ActH) (a2 : Int) (W : World) (hw0 : (Lit.int .i64 a0).wf = true) (h1 : ActsIn W a1 len1 L1) (hw2 : (Lit.int .i64 a2).wf = true) :
    Calls Try.prog 3 #[.int .i64 a0, .slice a1 len1 cap1, .int .i64 a2] W fun e w' => e = .returned (.bool true) ∧ Below W.heap.size W w' := by
  obtain ⟨E, hE, hE0, hEg⟩ := intE_ex
  have hnow := wf_inI hw2
  have hst := wf_inI hw0
  clear hw0 hw2
  have H1 := Lib.hid h1
  clear h1
  by_cases hso : stepOk a0
  · go_enter Try.func3, Try.ntmps3
    go_wp2_with fail
    refine (awake_any _).mono ?_
    rintro e w1 ⟨rfl, f1⟩
    have F1 := Lib.hid f1
    clear f1
    go_wp2_with fail
    refine (new_c E a0 _ hso).mono ?_
    rintro e w2 ⟨rfl, h2, f2, hs2⟩
    have hbase : W.heap.size ≤ w1.heap.size := F1.out.size
    have HH2 := Lib.hid h2
    have F2 := Lib.hid f2
    have HS2 := Lib.hid hs2
    clear h2 f2 hs2
    go_wp2_with fail
    refine (rnew_good a0 _ hso).mono ?_
    rintro e w3 ⟨rfl, h3, f3, hs3⟩
    have T0 : DoS E W w3 w1.heap.size 0 a0 [] [] (.slice none 0 0) (.slice none 0 0) := by
      rw [HS2.out] at h3
      exact ⟨HH2.out.fr f3, h3, (fun y hy => by cases hy), (F1.out.trans F2.out (fun y hy => .inl hy)).trans f3 (fun y hy => .inl hy)⟩
    have TT := Lib.hid T0
    have LL := Lib.hid (like_nil hso)
    rw [HS2.out]
    clear h3 f3 hs3 T0 HH2 HS2 F2 F1
    generalize w1.heap.size = u at *
    go_wp2_with fail
    go_loopg [11] 200 (fun k i wr => ∃ (j n : Nat) (A R : List ItD) (va vr : Value), k = 200 - j ∧ j ≤ 200 ∧ j ≤ len1 ∧ i = .int .i64 j ∧ n ≤ 5000 * j ∧ Like a0 A R ∧ DoS E W wr u n a0 A R va vr)
    case atStart => exact ⟨0, 0, [], [], _, _, rfl, by omega, by omega, rfl, by omega, LL.out, TT.out⟩
    case round =>
      clear TT LL
      obtain ⟨j, n, A, R, va, vr, rfl, hj, hjl, rfl, hn, hlk, hd⟩ := hrel
      have LK := Lib.hid hlk
      have HD := Lib.hid hd
      clear hlk hd
      by_cases hlt : j < len1 ∧ j < 200
      · have d1 : decide (j < len1) = true := decide_eq_true hlt.1
        have d2 : decide ((j : Int) < 200) = true := decide_eq_true (by omega)
        obtain ⟨bb, o, rfl, hbb, hcell⟩ := H1.out.rows.at_ (by omega)
        have hids := H1.out.ids j
        have c0 := hcell j hlt.1 0 _ rfl
        have c1 := hcell j hlt.1 1 _ rfl
        have c2 := hcell j hlt.1 2 _ rfl
        have c3 := hcell j hlt.1 3 _ rfl
        clear hcell
        generalize L1.getD j default = act at *
        obtain ⟨kind, x⟩ := act
        have y0 : wr.cell? ⟨bb, o + j * 4, none⟩ = some (.int .i64 kind) := cell_fr c0 HD.out.fr
        have y1 : wr.cell? ⟨bb, o + j * 4 + 1, none⟩ = some (.int .i64 x.id) := cell_fr c1 HD.out.fr
        have y2 : wr.cell? ⟨bb, o + j * 4 + 2, none⟩ = some (.int .i64 x.base) := cell_fr c2 HD.out.fr
        have y3 : wr.cell? ⟨bb, o + j * 4 + 3, none⟩ = some (.int .i64 x.since) := cell_fr c3 HD.out.fr
        have hidx : inI x.id := hids.2.1
        clear c0 c1 c2 c3 hids
        have hlo := HD.out.low
        have HROW := Lib.hid (Row.new wr [.int .i64 kind, .int .i64 x.id, .int .i64 x.base, .int .i64 x.since] 34)
        have HD2 := Lib.hid (HD.out.fr2 ((Fr.refl [] wr).alloc (.cells #[.int .i64 kind, .int .i64 x.id, .int .i64 x.base, .int .i64 x.since] 34)))
        have HVA := Lib.hid (fun y hy => (HD.out.hp.at_.row.lt y hy).2 : ∀ y, va.ownBlock = some y → y < wr.heap.size)
        go_upto_block 2 with fail
        generalize wr.alloc (.cells #[.int .i64 kind, .int .i64 x.id, .int .i64 x.base, .int .i64 x.since] 34) = wa at HROW HD2 ⊢
        obtain ⟨tb, htb⟩ : ∃ tb, tb = wr.heap.size := ⟨_, rfl⟩
        rw [← htb] at HROW HVA ⊢
        have hlo2 : u + 3 ≤ tb := by omega
        clear htb y0 y1 y2 y3
        go_cut [] (fun w => ∃ (nt : Nat) (At Rt : List ItD) (vat vrt : Value), nt ≤ 5000 * (j + 1) ∧ Like a0 At Rt ∧ DoS E W w u nt a0 At Rt vat vrt ∧ Row w tb [.int .i64 kind, .int .i64 x.id, .int .i64 x.base, .int .i64 x.since] 34)
        case first =>
          by_cases k0 : kind = 0
          · have dk : (kind == 0) = true := beq_iff_eq.2 k0
            clear k0
            go_wp2_with fail
            have C1 := put_c hE hEg HD2.out.drew.hp x hidx (by omega)
            simp only [ItD.val] at C1
            have D1 := Lib.hid C1
            clear C1
            refine wp_region_held_drew (S := (fun w' => w'.cell? ⟨tb, 1, none⟩ = some (.int .i64 x.id) ∧ w'.cell? ⟨tb, 2, none⟩ = some (.int .i64 x.base) ∧ w'.cell? ⟨tb, 3, none⟩ = some (.int .i64 x.since))) (by kernel_rfl) ⟨HROW.out.cell 1, HROW.out.cell 2, HROW.out.cell 3⟩ (fun hHeld => ?_)
            refine wpAnyH_take (i := 0) (v := ?_) rfl (by kernel_rfl) (by kernel_rfl) (by kernel_rfl) (fun _ _ _ h => h) (Or.inl ⟨rfl, ?_⟩) hHeld ?_
            rotate_left
            · (intro w hSw; (try dsimp only at hSw); go_simp; try (with_reducible rfl))
            simp only [List.getElem_toArray, List.getElem_cons_succ, List.getElem_cons_zero, Act.put, List.setIfInBounds_toArray, List.set_cons_zero, List.set_cons_succ]
            refine wpAnyH_take (i := 1) (v := ?_) rfl (by kernel_rfl) (by kernel_rfl) (by kernel_rfl) (fun _ _ _ h => h) (Or.inl ⟨rfl, ?_⟩) hHeld ?_
            rotate_left
            · (intro w hSw; (try dsimp only at hSw); go_simp; try (with_reducible rfl))
            simp only [List.getElem_toArray, List.getElem_cons_succ, List.getElem_cons_zero, Act.put, List.setIfInBounds_toArray, List.set_cons_zero, List.set_cons_succ]
            refine wpAnyH_take (i := 2) (v := ?_) rfl (by kernel_rfl) (by kernel_rfl) (by kernel_rfl) (fun _ _ _ h => h) (Or.inl ⟨rfl, ?_⟩) hHeld ?_
            rotate_left
            · (intro w hSw; (try dsimp only at hSw); go_simp; try (with_reducible rfl))
            simp only [List.getElem_toArray, List.getElem_cons_succ, List.getElem_cons_zero, Act.put, List.setIfInBounds_toArray, List.set_cons_zero, List.set_cons_succ]
            refine wpAnyH_take (i := 4) (v := ?_) rfl (by kernel_rfl) (by kernel_rfl) (by kernel_rfl) (fun _ _ _ h => h) (Or.inl ⟨rfl, ?_⟩) hHeld ?_
            rotate_left
            · (intro w hSw; (try dsimp only at hSw); go_simp; try (with_reducible rfl))
            simp only [List.getElem_toArray, List.getElem_cons_succ, List.getElem_cons_zero, Act.put, List.setIfInBounds_toArray, List.set_cons_zero, List.set_cons_succ]
            refine wpAnyH_take (i := 5) (v := ?_) rfl (by kernel_rfl) (by kernel_rfl) (by kernel_rfl) (fun _ _ _ h => h) (Or.inl ⟨rfl, ?_⟩) hHeld ?_
            rotate_left
            · (intro w hSw; (try dsimp only at hSw); go_simp; try (with_reducible rfl))
            simp only [List.getElem_toArray, List.getElem_cons_succ, List.getElem_cons_zero, Act.put, List.setIfInBounds_toArray, List.set_cons_zero, List.set_cons_succ]
            refine wpAnyH_take (i := 6) (v := ?_) rfl (by kernel_rfl) (by kernel_rfl) (by kernel_rfl) (fun _ _ _ h => h) (Or.inl ⟨rfl, ?_⟩) hHeld ?_
            rotate_left
            · (intro w hSw; (try dsimp only at hSw); go_simp; try (with_reducible rfl))
            simp only [List.getElem_toArray, List.getElem_cons_succ, List.getElem_cons_zero, Act.put, List.setIfInBounds_toArray, List.set_cons_zero, List.set_cons_succ]
            refine wpAnyH_ready (rs := [3]) (by kernel_rfl) (by simp) ?_
            refine AllReadyH.cons rfl (fun K hK => ?_) AllReadyH.nil
            simp only [List.getElem_toArray, List.getElem_cons_succ, List.getElem_cons_zero]
            go_simp
            refine D1.out.mono ?_
            rintro e w5 ⟨rfl, N⟩
            obtain ⟨n5, v5, hn5, d5, keep5⟩ := HD2.out.drew.stepA N hbase
            have x5 : Row w5 tb [.int .i64 kind, .int .i64 x.id, .int .i64 x.base, .int .i64 x.since] 34 := (keep5 tb (by omega) HROW.out.lt (fun hv => by have := HVA.out tb hv; omega)).trans HROW.out
            have D5 := Lib.hid d5
            have X5 := Lib.hid x5
            refine hK.out _ _ ⟨x5.cell 1, x5.cell 2, x5.cell 3⟩ (fun hHeld => ?_)
            clear hK K N d5 x5 keep5 D1
            have C2 := rput_c D5.out.rf LK.out.gr D5.out.low x
            rw [← LK.out.putE x] at C2
            simp only [ItD.val] at C2
            refine wpAnyH_ready (rs := [7]) (by kernel_rfl) (by simp) ?_
            refine AllReadyH.cons rfl (fun K hK => ?_) AllReadyH.nil
            simp only [List.getElem_toArray, List.getElem_cons_succ, List.getElem_cons_zero]
            go_simp
            refine C2.mono ?_
            rintro e w6 ⟨rfl, N⟩
            obtain ⟨v6, d6, f6⟩ := D5.out.stepB N hbase
            have x6 := X5.out.fr f6 (by simp; omega)
            have D6 := Lib.hid d6
            have X6 := Lib.hid x6
            refine hK.out _ _ ⟨x6.cell 1, x6.cell 2, x6.cell 3⟩ (fun hHeld => ?_)
            clear hK K N d6 x6 f6 C2
            have L6 := Lib.hid (LK.out.put x hidx)
            refine wpAnyH_take (i := 8) (v := ?_) rfl (by kernel_rfl) (by kernel_rfl) (by kernel_rfl) (fun _ _ _ h => h) (Or.inl ⟨rfl, ?_⟩) hHeld ?_
            rotate_left
            · (intro w hSw; (try dsimp only at hSw); go_simp; try (with_reducible rfl))
            simp only [List.getElem_toArray, List.getElem_cons_succ, List.getElem_cons_zero, Act.put, List.setIfInBounds_toArray, List.set_cons_zero, List.set_cons_succ]
            refine wpAnyH_done (by kernel_rfl) ?_ _
            clear hHeld
            obtain ⟨wt, rfl⟩ : ∃ z, z = w6 := ⟨_, rfl⟩
            obtain ⟨nt, rfl⟩ : ∃ z, z = n5 := ⟨_, rfl⟩
            obtain ⟨vat, rfl⟩ : ∃ z, z = v5 := ⟨_, rfl⟩
            obtain ⟨vrt, rfl⟩ : ∃ z, z = v6 := ⟨_, rfl⟩
            generalize putL a0 A x = At at D6 L6
            generalize rputL a0 R x = Rt at D6 L6
            generalize putE A x = ec
            have DT := Lib.hid D6.out
            have LT := Lib.hid L6.out
            have XT := Lib.hid X6.out
            have hnt : nt ≤ 5000 * (j + 1) := by omega
            clear D5 D6 L6 X5 X6 HD HD2 LK HVA HROW
            go_wp2_with fail
            go_meet
            exact ⟨nt, At, Rt, vat, _, hnt, LT.out, DT.out, XT.out⟩
          · have dk0 : (kind == 0) = false := beq_eq_false_iff_ne.2 k0
            by_cases k1 : kind = 1
            · have dk1 : (kind == 1) = true := beq_iff_eq.2 k1
              clear k0 k1
              go_wp2_with fail
              have C1 := pop_c hE hE0 hEg HD2.out.hp (by omega)
              have htop := LK.out.top
              generalize hpp : topX A = p0 at C1 htop
              generalize hnb : nonB A = nb0 at C1 htop
              have HPP := Lib.hid hpp
              have HNB := Lib.hid hnb
              have HTOP := Lib.hid htop
              simp only [ItD.val] at C1
              have D1 := Lib.hid C1
              clear C1 htop hpp hnb
              refine D1.out.mono ?_
              rintro e w5 ⟨rfl, N⟩
              obtain ⟨n5, v5, hn5, d5, keep5⟩ := HD2.out.stepA N hbase
              have x5 : Row w5 tb [.int .i64 kind, .int .i64 x.id, .int .i64 x.base, .int .i64 x.since] 34 := (keep5 tb (by omega) HROW.out.lt (fun hv => by have := HVA.out tb hv; omega)).trans HROW.out
              have fa := (Fr.refl [] w5).alloc (.cells #[.int .i64 p0.id, .int .i64 p0.base, .int .i64 p0.since] 32)
              have D5 := Lib.hid (d5.fr2 fa)
              have X5 := Lib.hid (x5.fr fa (by simp))
              have P5 := Lib.hid (Row.new w5 [.int .i64 p0.id, .int .i64 p0.base, .int .i64 p0.since] 32)
              have hlo5 := d5.low
              have CR := rpeek_any _ _ _ _ _ _ D5.out.rf LK.out.gr.few
              rw [← HTOP.out.1, ← HTOP.out.2] at CR
              simp only [ItD.val] at CR
              have DR := Lib.hid CR
              clear N d5 x5 keep5 D1 fa CR
              go_wp2_with fail
              refine DR.out.mono ?_
              rintro e w6 ⟨rfl, f6⟩
              have f6a := f6.alloc (.cells #[.int .i64 p0.id, .int .i64 p0.base, .int .i64 p0.since] 37)
              have D6 := Lib.hid (D5.out.fr2 f6a)
              have X6 := Lib.hid (X5.out.fr f6a (by simp))
              have P6 := Lib.hid (P5.out.fr f6a (by simp))
              have Q6 := Lib.hid (Row.new w6 [.int .i64 p0.id, .int .i64 p0.base, .int .i64 p0.since] 37)
              have hlo6 : w5.heap.size + 1 ≤ w6.heap.size := by have := f6.size; simp at this; omega
              clear f6 f6a DR
              cases nb0 with
              | true =>
                have h0 : 0 < A.length := of_decide_eq_true HNB.out
                have LP := Lib.hid (LK.out.pop h0)
                rw [← HTOP.out.1] at LP
                have C14 := rrem_c D6.out.rf LK.out.gr D6.out.low p0.id
                generalize remX R p0.id = rx at C14
                generalize hasI R p0.id = rb at C14
                simp only [ItD.val] at C14
                have D14 := Lib.hid C14
                clear C14 h0
                go_wp2_with fail
                refine D14.out.mono ?_
                rintro e w7 ⟨rfl, N⟩
                obtain ⟨v7, d7, f7⟩ := D6.out.stepB N hbase
                have x7 := X6.out.fr f7 (by simp; omega)
                have p7 := P6.out.fr f7 (by simp; omega)
                have q7 := Q6.out.fr f7 (by simp; omega)
                have z0 : w7.cell? ⟨w5.heap.size, 0, none⟩ = some (.int .i64 p0.id) := p7.cell 0
                have z1 : w7.cell? ⟨w5.heap.size, 1, none⟩ = some (.int .i64 p0.base) := p7.cell 1
                have z2 : w7.cell? ⟨w5.heap.size, 2, none⟩ = some (.int .i64 p0.since) := p7.cell 2
                have q0 : w7.cell? ⟨w6.heap.size, 0, none⟩ = some (.int .i64 p0.id) := q7.cell 0
                have q1 : w7.cell? ⟨w6.heap.size, 1, none⟩ = some (.int .i64 p0.base) := q7.cell 1
                have q2 : w7.cell? ⟨w6.heap.size, 2, none⟩ = some (.int .i64 p0.since) := q7.cell 2
                have DT := Lib.hid d7
                have XT := Lib.hid x7
                clear N d7 x7 p7 q7 f7 D14
                go_wp2_with fail
                clear z0 z1 z2 q0 q1 q2
                obtain ⟨wt, rfl⟩ : ∃ z, z = w7 := ⟨_, rfl⟩
                obtain ⟨nt, rfl⟩ : ∃ z, z = n5 := ⟨_, rfl⟩
                obtain ⟨vat, rfl⟩ : ∃ z, z = v5 := ⟨_, rfl⟩
                generalize popL a0 A = At at DT LP
                generalize rrmL R p0.id = Rt at DT LP
                have LT := Lib.hid LP.out
                have hnt : nt ≤ 5000 * (j + 1) := by omega
                clear D5 D6 LP X5 X6 P5 P6 Q6 HD HD2 LK HVA HROW HPP HNB HTOP
                go_meet
                exact ⟨nt, At, Rt, vat, _, hnt, LT.out, DT.out, XT.out⟩
              | false =>
                have h0 : A = [] := List.eq_nil_of_length_eq_zero (by have := of_decide_eq_false HNB.out; omega)
                have hpl : popL a0 A = A := by rw [h0]; rfl
                rw [hpl] at D6
                have DT := Lib.hid D6.out
                have XT := Lib.hid X6.out
                have z0 : (w6.alloc (.cells #[.int .i64 p0.id, .int .i64 p0.base, .int .i64 p0.since] 37)).cell? ⟨w5.heap.size, 0, none⟩ = some (.int .i64 p0.id) := P6.out.cell 0
                have z1 : (w6.alloc (.cells #[.int .i64 p0.id, .int .i64 p0.base, .int .i64 p0.since] 37)).cell? ⟨w5.heap.size, 1, none⟩ = some (.int .i64 p0.base) := P6.out.cell 1
                have z2 : (w6.alloc (.cells #[.int .i64 p0.id, .int .i64 p0.base, .int .i64 p0.since] 37)).cell? ⟨w5.heap.size, 2, none⟩ = some (.int .i64 p0.since) := P6.out.cell 2
                have LT := Lib.hid LK.out
                clear h0 hpl
                go_wp2_with fail
                clear z0 z1 z2
                generalize w6.alloc (.cells #[.int .i64 p0.id, .int .i64 p0.base, .int .i64 p0.since] 37) = wt at *
                obtain ⟨nt, rfl⟩ : ∃ z, z = n5 := ⟨_, rfl⟩
                obtain ⟨vat, rfl⟩ : ∃ z, z = v5 := ⟨_, rfl⟩
                obtain ⟨At, rfl⟩ : ∃ z, z = A := ⟨_, rfl⟩
                obtain ⟨Rt, rfl⟩ : ∃ z, z = R := ⟨_, rfl⟩
                have hnt : nt ≤ 5000 * (j + 1) := by omega
                clear D5 D6 X5 X6 P5 P6 Q6 HD HD2 LK HVA HROW HPP HNB HTOP
                go_meet
                exact ⟨nt, At, Rt, vat, _, hnt, LT.out, DT.out, XT.out⟩
            · have dk1 : (kind == 1) = false := beq_eq_false_iff_ne.2 k1
              by_cases k2 : kind = 2
              · have dk2 : (kind == 2) = true := beq_iff_eq.2 k2
                clear k0 k1 k2
                have xx1 : wa.cell? ⟨tb, 1, none⟩ = some (.int .i64 x.id) := HROW.out.cell 1
                go_wp2_with fail
                clear xx1
                have C1 := rem_c hE hE0 hEg HD2.out.hp x.id hidx (by omega)
                have LR := Lib.hid (LK.out.rm x.id)
                rw [LK.out.rem x.id, LK.out.has x.id] at C1
                have C14 := fun w' (h : RhAt w' (u + 2) (u + 3) a0 R vr) (hl : u + 3 ≤ w'.heap.size) => rrem_c h LK.out.gr hl x.id
                generalize remX R x.id = p0 at C1 C14
                generalize hasI R x.id = rb at C1 C14
                simp only [ItD.val] at C1 C14
                have D1 := Lib.hid C1
                have D14 := Lib.hid C14
                clear C1 C14
                refine D1.out.mono ?_
                rintro e w5 ⟨rfl, N⟩
                obtain ⟨n5, v5, hn5, d5, keep5⟩ := HD2.out.stepA N hbase
                have x5 : Row w5 tb [.int .i64 kind, .int .i64 x.id, .int .i64 x.base, .int .i64 x.since] 34 := (keep5 tb (by omega) HROW.out.lt (fun hv => by have := HVA.out tb hv; omega)).trans HROW.out
                have fa := (Fr.refl [] w5).alloc (.cells #[.int .i64 p0.id, .int .i64 p0.base, .int .i64 p0.since] 32)
                have D5 := Lib.hid (d5.fr2 fa)
                have X5 := Lib.hid (x5.fr fa (by simp))
                have P5 := Lib.hid (Row.new w5 [.int .i64 p0.id, .int .i64 p0.base, .int .i64 p0.since] 32)
                have hlo5 := d5.low
                have x1 : (w5.alloc (.cells #[.int .i64 p0.id, .int .i64 p0.base, .int .i64 p0.since] 32)).cell? ⟨tb, 1, none⟩ = some (.int .i64 x.id) := X5.out.cell 1
                clear N d5 x5 keep5 D1 fa
                go_wp2_with fail
                refine (D14.out _ D5.out.rf D5.out.low).mono ?_
                rintro e w6 ⟨rfl, N⟩
                obtain ⟨v6, d6, f6⟩ := D5.out.stepB N hbase
                have p6 := P5.out.fr f6 (by simp; omega)
                have x6 := X5.out.fr f6 (by simp; omega)
                have fb := (Fr.refl [] w6).alloc (.cells #[.int .i64 p0.id, .int .i64 p0.base, .int .i64 p0.since] 37)
                have DT := Lib.hid (d6.fr2 fb)
                have XT := Lib.hid (x6.fr fb (by simp))
                have z0 : (w6.alloc (.cells #[.int .i64 p0.id, .int .i64 p0.base, .int .i64 p0.since] 37)).cell? ⟨w5.heap.size, 0, none⟩ = some (.int .i64 p0.id) := (p6.fr fb (by simp)).cell 0
                have z1 : (w6.alloc (.cells #[.int .i64 p0.id, .int .i64 p0.base, .int .i64 p0.since] 37)).cell? ⟨w5.heap.size, 1, none⟩ = some (.int .i64 p0.base) := (p6.fr fb (by simp)).cell 1
                have z2 : (w6.alloc (.cells #[.int .i64 p0.id, .int .i64 p0.base, .int .i64 p0.since] 37)).cell? ⟨w5.heap.size, 2, none⟩ = some (.int .i64 p0.since) := (p6.fr fb (by simp)).cell 2
                clear N d6 p6 x6 f6 fb D14 x1
                go_wp2_with fail
                clear z0 z1 z2
                generalize w6.alloc (.cells #[.int .i64 p0.id, .int .i64 p0.base, .int .i64 p0.since] 37) = wt at *
                obtain ⟨nt, rfl⟩ : ∃ z, z = n5 := ⟨_, rfl⟩
                obtain ⟨vat, rfl⟩ : ∃ z, z = v5 := ⟨_, rfl⟩
                generalize rmL a0 A x.id = At at DT LR
                generalize rrmL R x.id = Rt at DT LR
                have LT := Lib.hid LR.out
                have hnt : nt ≤ 5000 * (j + 1) := by omega
                clear D5 X5 P5 HD HD2 LK LR HVA HROW
                go_meet
                exact ⟨nt, At, Rt, vat, _, hnt, LT.out, DT.out, XT.out⟩
              · have dk2 : (kind == 2) = false := beq_eq_false_iff_ne.2 k2
                clear k0 k1 k2
                go_wp2_with fail
                obtain ⟨wt, rfl⟩ : ∃ z, z = wa := ⟨_, rfl⟩
                obtain ⟨nt, rfl⟩ : ∃ z, z = n := ⟨_, rfl⟩
                obtain ⟨vat, rfl⟩ : ∃ z, z = va := ⟨_, rfl⟩
                obtain ⟨At, rfl⟩ : ∃ z, z = A := ⟨_, rfl⟩
                obtain ⟨Rt, rfl⟩ : ∃ z, z = R := ⟨_, rfl⟩
                have DT := Lib.hid HD2.out
                have LT := Lib.hid LK.out
                have XT := Lib.hid HROW.out
                have hnt : nt ≤ 5000 * (j + 1) := by omega
                clear HD HD2 LK HVA HROW
                go_meet
                exact ⟨nt, At, Rt, vat, _, hnt, LT.out, DT.out, XT.out⟩
        case rest =>
          obtain ⟨nt, At, Rt, vat, vrt, hnt, hlt2, hdt, hxt⟩ := hcut
          obtain ⟨wt, rfl⟩ : ∃ z, z = wc := ⟨_, rfl⟩
          have DT := Lib.hid hdt
          have LT := Lib.hid hlt2
          have XT := Lib.hid hxt
          clear hlt2 hdt hxt HD HD2 LK HVA HROW
          have CP := peek_c DT.out.hp
          generalize hpp : topX At = p at CP
          generalize hnb : nonB At = nb at CP
          have htop := LT.out.top
          rw [hpp, hnb] at htop
          have HTOP := Lib.hid htop
          simp only [ItD.val] at CP
          have DP := Lib.hid CP
          clear CP htop hpp hnb
          go_wp2_with fail
          refine DP.out.mono ?_
          rintro e w7 ⟨rfl, f7⟩
          have G7 := Lib.hid (f7.alloc (.cells #[.int .i64 p.id, .int .i64 p.base, .int .i64 p.since] 32))
          have P7 := Lib.hid (Row.new w7 [.int .i64 p.id, .int .i64 p.base, .int .i64 p.since] 32)
          have hwt7 := f7.size
          clear f7 DP
          have CR := rpeek_any _ _ _ _ _ _ (DT.out.rf.fr G7.out) LT.out.gr.few
          rw [← HTOP.out.1, ← HTOP.out.2] at CR
          simp only [ItD.val] at CR
          have DR := Lib.hid CR
          clear CR
          go_wp2_with fail
          refine DR.out.mono ?_
          rintro e w8 ⟨rfl, f8⟩
          have f8a := f8.alloc (.cells #[.int .i64 p.id, .int .i64 p.base, .int .i64 p.since] 37)
          have G8 := Lib.hid (G7.out.trans f8a (fun y hy => .inl hy))
          have P8 := Lib.hid (P7.out.fr f8a (by simp))
          have Q8 := Lib.hid (Row.new w8 [.int .i64 p.id, .int .i64 p.base, .int .i64 p.since] 37)
          have x1 : (w8.alloc (.cells #[.int .i64 p.id, .int .i64 p.base, .int .i64 p.since] 37)).cell? ⟨tb, 1, none⟩ = some (.int .i64 x.id) := (XT.out.fr G8.out (by simp)).cell 1
          clear f8 f8a DR
          have CW := weight_any E hE hE0 _ _ _ _ _ _ _ x.id a2 _ (DT.out.hp.fr G8.out).at_ LT.out.ga hidx
          rw [LT.out.weight x.id a2, show (posM At x.id).isSome = hasI Rt x.id from LT.out.has x.id] at CW
          generalize hwv : weightAt a0 Rt x.id a2 = wv at CW
          generalize hhv : hasI Rt x.id = hv at CW
          have HWV := Lib.hid hwv
          have HHV := Lib.hid hhv
          have DW := Lib.hid CW
          clear CW hwv hhv
          go_wp2_with fail
          refine DW.out.mono ?_
          rintro e w9 ⟨rfl, f9⟩
          have G9 := Lib.hid (G8.out.trans f9 (fun y hy => .inl hy))
          have P9 := Lib.hid (P8.out.fr f9 (by simp))
          have Q9 := Lib.hid (Q8.out.fr f9 (by simp))
          clear f9 DW x1
          have x1 : w9.cell? ⟨tb, 1, none⟩ = some (.int .i64 x.id) := (XT.out.fr G9.out (by simp)).cell 1
          have CV := rweight_any _ _ _ _ _ x.id a2 _ (DT.out.rf.fr G9.out) LT.out.gr hnow
          rw [HWV.out, HHV.out] at CV
          have DV := Lib.hid CV
          clear CV
          go_wp2_with fail
          refine DV.out.mono ?_
          rintro e w10 ⟨rfl, f10⟩
          have G10 := Lib.hid (G9.out.trans f10 (fun y hy => .inl hy))
          have P10 := Lib.hid (P9.out.fr f10 (by simp))
          have Q10 := Lib.hid (Q9.out.fr f10 (by simp))
          clear f10 DV x1
          obtain ⟨ar, cr, hvr⟩ := rh_slice DT.out.rf
          subst hvr
          have D10 := Lib.hid (DT.out.fr2 G10.out.drew)
          have hfew := LT.out.gr.few
          have K10 := Lib.hid (⟨P10.out.cell 0, P10.out.cell 1, P10.out.cell 2, Q10.out.cell 0, Q10.out.cell 1, Q10.out.cell 2, (XT.out.fr G10.out (by simp)).cell 1, D10.out.rf.head.cell 1⟩ : (w10.drew.cell? ⟨w7.heap.size, 0, none⟩ = some (.int .i64 p.id) ∧ w10.drew.cell? ⟨w7.heap.size, 1, none⟩ = some (.int .i64 p.base) ∧ w10.drew.cell? ⟨w7.heap.size, 2, none⟩ = some (.int .i64 p.since) ∧ w10.drew.cell? ⟨w8.heap.size, 0, none⟩ = some (.int .i64 p.id) ∧ w10.drew.cell? ⟨w8.heap.size, 1, none⟩ = some (.int .i64 p.base) ∧ w10.drew.cell? ⟨w8.heap.size, 2, none⟩ = some (.int .i64 p.since) ∧ w10.drew.cell? ⟨tb, 1, none⟩ = some (.int .i64 x.id) ∧ w10.drew.cell? ⟨u + 2, 1, none⟩ = some (.slice ar Rt.length cr)))
          have C19 := hlen_any E _ _ _ _ _ _ _ _ D10.out.hp.at_
          rw [LT.out.len] at C19
          have C20 := has_any E _ _ _ _ _ _ _ _ D10.out.hp.at_ x.id hidx
          rw [show (posM At x.id).isSome = hv from (LT.out.has x.id).trans HHV.out] at C20
          have C21 := rhas_any _ _ _ _ _ x.id _ D10.out.rf LT.out.gr.nd LT.out.gr.few
          rw [HHV.out] at C21
          have D19 := Lib.hid C19
          have D20 := Lib.hid C20
          have D21 := Lib.hid C21
          clear C19 C20 C21
          go_wp2_with fail
          refine wp_region_held_drew (S := (fun w' => w'.cell? ⟨w7.heap.size, 0, none⟩ = some (.int .i64 p.id) ∧ w'.cell? ⟨w7.heap.size, 1, none⟩ = some (.int .i64 p.base) ∧ w'.cell? ⟨w7.heap.size, 2, none⟩ = some (.int .i64 p.since) ∧ w'.cell? ⟨w8.heap.size, 0, none⟩ = some (.int .i64 p.id) ∧ w'.cell? ⟨w8.heap.size, 1, none⟩ = some (.int .i64 p.base) ∧ w'.cell? ⟨w8.heap.size, 2, none⟩ = some (.int .i64 p.since) ∧ w'.cell? ⟨tb, 1, none⟩ = some (.int .i64 x.id) ∧ w'.cell? ⟨u + 2, 1, none⟩ = some (.slice ar Rt.length cr))) (by kernel_rfl) K10.out (fun hHeld => ?_)
          refine wpAnyH_take (i := 0) (v := ?_) rfl (by kernel_rfl) (by kernel_rfl) (by kernel_rfl) (fun _ _ _ h => h) (Or.inl ⟨rfl, ?_⟩) hHeld ?_
          rotate_left
          · (intro w hSw; (try dsimp only at hSw); go_simp; try (with_reducible rfl))
          simp only [List.getElem_toArray, List.getElem_cons_succ, List.getElem_cons_zero, Act.put, List.setIfInBounds_toArray, List.set_cons_zero, List.set_cons_succ]
          refine wpAnyH_take (i := 1) (v := ?_) rfl (by kernel_rfl) (by kernel_rfl) (by kernel_rfl) (fun _ _ _ h => h) (Or.inl ⟨rfl, ?_⟩) hHeld ?_
          rotate_left
          · (intro w hSw; (try dsimp only at hSw); go_simp; try (with_reducible rfl))
          simp only [List.getElem_toArray, List.getElem_cons_succ, List.getElem_cons_zero, Act.put, List.setIfInBounds_toArray, List.set_cons_zero, List.set_cons_succ]
          refine wpAnyH_take (i := 2) (v := ?_) rfl (by kernel_rfl) (by kernel_rfl) (by kernel_rfl) (fun _ _ _ h => h) (Or.inl ⟨rfl, ?_⟩) hHeld ?_
          rotate_left
          · (intro w hSw; (try dsimp only at hSw); go_simp; try (with_reducible rfl))
          simp only [List.getElem_toArray, List.getElem_cons_succ, List.getElem_cons_zero, Act.put, List.setIfInBounds_toArray, List.set_cons_zero, List.set_cons_succ]
          refine wpAnyH_take (i := 3) (v := ?_) rfl (by kernel_rfl) (by kernel_rfl) (by kernel_rfl) (fun _ _ _ h => h) (Or.inl ⟨rfl, ?_⟩) hHeld ?_
          rotate_left
          · (intro w hSw; (try dsimp only at hSw); go_simp; try (with_reducible rfl))
          simp only [List.getElem_toArray, List.getElem_cons_succ, List.getElem_cons_zero, Act.put, List.setIfInBounds_toArray, List.set_cons_zero, List.set_cons_succ]
          refine wpAnyH_take (i := 4) (v := ?_) rfl (by kernel_rfl) (by kernel_rfl) (by kernel_rfl) (fun _ _ _ h => h) (Or.inl ⟨rfl, ?_⟩) hHeld ?_
          rotate_left
          · (intro w hSw; (try dsimp only at hSw); go_simp; try (with_reducible rfl))
          simp only [List.getElem_toArray, List.getElem_cons_succ, List.getElem_cons_zero, Act.put, List.setIfInBounds_toArray, List.set_cons_zero, List.set_cons_succ]
          refine wpAnyH_take (i := 5) (v := ?_) rfl (by kernel_rfl) (by kernel_rfl) (by kernel_rfl) (fun _ _ _ h => h) (Or.inl ⟨rfl, ?_⟩) hHeld ?_
          rotate_left
          · (intro w hSw; (try dsimp only at hSw); go_simp; try (with_reducible rfl))
          simp only [List.getElem_toArray, List.getElem_cons_succ, List.getElem_cons_zero, Act.put, List.setIfInBounds_toArray, List.set_cons_zero, List.set_cons_succ]
          refine wpAnyH_take (i := 6) (v := ?_) rfl (by kernel_rfl) (by kernel_rfl) (by kernel_rfl) (fun _ _ _ h => h) (Or.inl ⟨rfl, ?_⟩) hHeld ?_
          rotate_left
          · (intro w hSw; (try dsimp only at hSw); go_simp; try (with_reducible rfl))
          simp only [List.getElem_toArray, List.getElem_cons_succ, List.getElem_cons_zero, Act.put, List.setIfInBounds_toArray, List.set_cons_zero, List.set_cons_succ]
          refine wpAnyH_take (i := 7) (v := ?_) rfl (by kernel_rfl) (by kernel_rfl) (by kernel_rfl) (fun _ _ _ h => h) (Or.inl ⟨rfl, ?_⟩) hHeld ?_
          rotate_left
          · (intro w hSw; (try dsimp only at hSw); go_simp; try (with_reducible rfl))
          simp only [List.getElem_toArray, List.getElem_cons_succ, List.getElem_cons_zero, Act.put, List.setIfInBounds_toArray, List.set_cons_zero, List.set_cons_succ]
          refine wpAnyH_take (i := 8) (v := ?_) rfl (by kernel_rfl) (by kernel_rfl) (by kernel_rfl) (fun _ _ _ h => h) (Or.inl ⟨rfl, ?_⟩) hHeld ?_
          rotate_left
          · (intro w hSw; (try dsimp only at hSw); go_simp; try (with_reducible rfl))
          simp only [List.getElem_toArray, List.getElem_cons_succ, List.getElem_cons_zero, Act.put, List.setIfInBounds_toArray, List.set_cons_zero, List.set_cons_succ]
          refine wpAnyH_take (i := 9) (v := ?_) rfl (by kernel_rfl) (by kernel_rfl) (by kernel_rfl) (fun _ _ _ h => h) (Or.inl ⟨rfl, ?_⟩) hHeld ?_
          rotate_left
          · (intro w hSw; (try dsimp only at hSw); go_simp; try (with_reducible rfl))
          simp only [List.getElem_toArray, List.getElem_cons_succ, List.getElem_cons_zero, Act.put, List.setIfInBounds_toArray, List.set_cons_zero, List.set_cons_succ]
          refine wpAnyH_take (i := 11) (v := ?_) rfl (by kernel_rfl) (by kernel_rfl) (by kernel_rfl) (fun _ _ _ h => h) (Or.inl ⟨rfl, ?_⟩) hHeld ?_
          rotate_left
          · (intro w hSw; (try dsimp only at hSw); go_simp; try (with_reducible rfl))
          simp only [List.getElem_toArray, List.getElem_cons_succ, List.getElem_cons_zero, Act.put, List.setIfInBounds_toArray, List.set_cons_zero, List.set_cons_succ]
          refine wpAnyH_take (i := 12) (v := ?_) rfl (by kernel_rfl) (by kernel_rfl) (by kernel_rfl) (fun _ _ _ h => h) (Or.inl ⟨rfl, ?_⟩) hHeld ?_
          rotate_left
          · (intro w hSw; (try dsimp only at hSw); go_simp; try (with_reducible rfl))
          simp only [List.getElem_toArray, List.getElem_cons_succ, List.getElem_cons_zero, Act.put, List.setIfInBounds_toArray, List.set_cons_zero, List.set_cons_succ]
          refine wpAnyH_take (i := 13) (v := ?_) rfl (by kernel_rfl) (by kernel_rfl) (by kernel_rfl) (fun _ _ _ h => h) (Or.inl ⟨rfl, ?_⟩) hHeld ?_
          rotate_left
          · (intro w hSw; (try dsimp only at hSw); go_simp; try (with_reducible rfl))
          simp only [List.getElem_toArray, List.getElem_cons_succ, List.getElem_cons_zero, Act.put, List.setIfInBounds_toArray, List.set_cons_zero, List.set_cons_succ]
          refine wpAnyH_take (i := 14) (v := ?_) rfl (by kernel_rfl) (by kernel_rfl) (by kernel_rfl) (fun _ _ _ h => h) (Or.inl ⟨rfl, ?_⟩) hHeld ?_
          rotate_left
          · (intro w hSw; (try dsimp only at hSw); go_simp; try (with_reducible rfl))
          simp only [List.getElem_toArray, List.getElem_cons_succ, List.getElem_cons_zero, Act.put, List.setIfInBounds_toArray, List.set_cons_zero, List.set_cons_succ]
          refine wpAnyH_take (i := 15) (v := ?_) rfl (by kernel_rfl) (by kernel_rfl) (by kernel_rfl) (fun _ _ _ h => h) (Or.inl ⟨rfl, ?_⟩) hHeld ?_
          rotate_left
          · (intro w hSw; (try dsimp only at hSw); go_simp; try (with_reducible rfl))
          simp only [List.getElem_toArray, List.getElem_cons_succ, List.getElem_cons_zero, Act.put, List.setIfInBounds_toArray, List.set_cons_zero, List.set_cons_succ]
          refine wpAnyH_ready (rs := [10]) (by kernel_rfl) (by simp) ?_
          refine AllReadyH.cons rfl (fun K hK => ?_) AllReadyH.nil
          simp only [List.getElem_toArray, List.getElem_cons_succ, List.getElem_cons_zero]
          go_simp
          refine D19.out.mono ?_
          rintro e w11 ⟨rfl, hw11⟩
          rw [← hw11]
          clear hw11
          refine hK.out _ _ hHeld (fun hHeld => ?_)
          clear hK K
          refine wpAnyH_take (i := 16) (v := ?_) rfl (by kernel_rfl) (by kernel_rfl) (by kernel_rfl) (fun _ _ _ h => h) (Or.inl ⟨rfl, ?_⟩) hHeld ?_
          rotate_left
          · (intro w hSw; (try dsimp only at hSw); go_simp; try (with_reducible rfl))
          simp only [List.getElem_toArray, List.getElem_cons_succ, List.getElem_cons_zero, Act.put, List.setIfInBounds_toArray, List.set_cons_zero, List.set_cons_succ]
          refine wpAnyH_take (i := 17) (v := ?_) rfl (by kernel_rfl) (by kernel_rfl) (by kernel_rfl) (fun _ _ _ h => h) (Or.inl ⟨rfl, ?_⟩) hHeld ?_
          rotate_left
          · (intro w hSw; (try dsimp only at hSw); go_simp; try (with_reducible rfl))
          simp only [List.getElem_toArray, List.getElem_cons_succ, List.getElem_cons_zero, Act.put, List.setIfInBounds_toArray, List.set_cons_zero, List.set_cons_succ]
          refine wpAnyH_take (i := 18) (v := ?_) rfl (by kernel_rfl) (by kernel_rfl) (by kernel_rfl) (fun _ _ _ h => h) (Or.inl ⟨rfl, ?_⟩) hHeld ?_
          rotate_left
          · (intro w hSw; (try dsimp only at hSw); go_simp; try (with_reducible rfl))
          simp only [List.getElem_toArray, List.getElem_cons_succ, List.getElem_cons_zero, Act.put, List.setIfInBounds_toArray, List.set_cons_zero, List.set_cons_succ]
          refine wpAnyH_take (i := 19) (v := ?_) rfl (by kernel_rfl) (by kernel_rfl) (by kernel_rfl) (fun _ _ _ h => h) (Or.inl ⟨rfl, ?_⟩) hHeld ?_
          rotate_left
          · (intro w hSw; (try dsimp only at hSw); go_simp; try (with_reducible rfl))
          simp only [List.getElem_toArray, List.getElem_cons_succ, List.getElem_cons_zero, Act.put, List.setIfInBounds_toArray, List.set_cons_zero, List.set_cons_succ]
          refine wpAnyH_take (i := 20) (v := ?_) rfl (by kernel_rfl) (by kernel_rfl) (by kernel_rfl) (fun _ _ _ h => h) (Or.inl ⟨rfl, ?_⟩) hHeld ?_
          rotate_left
          · (intro w hSw; (try dsimp only at hSw); go_simp; try (with_reducible rfl))
          simp only [List.getElem_toArray, List.getElem_cons_succ, List.getElem_cons_zero, Act.put, List.setIfInBounds_toArray, List.set_cons_zero, List.set_cons_succ]
          refine wpAnyH_take (i := 21) (v := ?_) rfl (by kernel_rfl) (by kernel_rfl) (by kernel_rfl) (fun _ _ _ h => h) (Or.inl ⟨rfl, ?_⟩) hHeld ?_
          rotate_left
          · (intro w hSw; (try dsimp only at hSw); go_simp; try (with_reducible rfl))
          simp only [List.getElem_toArray, List.getElem_cons_succ, List.getElem_cons_zero, Act.put, List.setIfInBounds_toArray, List.set_cons_zero, List.set_cons_succ]
          refine wpAnyH_take (i := 22) (v := ?_) rfl (by kernel_rfl) (by kernel_rfl) (by kernel_rfl) (fun _ _ _ h => h) (Or.inl ⟨rfl, ?_⟩) hHeld ?_
          rotate_left
          · (intro w hSw; (try dsimp only at hSw); go_simp; try (with_reducible rfl))
          simp only [List.getElem_toArray, List.getElem_cons_succ, List.getElem_cons_zero, Act.put, List.setIfInBounds_toArray, List.set_cons_zero, List.set_cons_succ]
          refine wpAnyH_take (i := 24) (v := ?_) rfl (by kernel_rfl) (by kernel_rfl) (by kernel_rfl) (fun _ _ _ h => h) (Or.inl ⟨rfl, ?_⟩) hHeld ?_
          rotate_left
          · (intro w hSw; (try dsimp only at hSw); go_simp; try (with_reducible rfl))
          simp only [List.getElem_toArray, List.getElem_cons_succ, List.getElem_cons_zero, Act.put, List.setIfInBounds_toArray, List.set_cons_zero, List.set_cons_succ]
          refine wpAnyH_take (i := 25) (v := ?_) rfl (by kernel_rfl) (by kernel_rfl) (by kernel_rfl) (fun _ _ _ h => h) (Or.inl ⟨rfl, ?_⟩) hHeld ?_
          rotate_left
          · (intro w hSw; (try dsimp only at hSw); go_simp; try (with_reducible rfl))
          simp only [List.getElem_toArray, List.getElem_cons_succ, List.getElem_cons_zero, Act.put, List.setIfInBounds_toArray, List.set_cons_zero, List.set_cons_succ]
          refine wpAnyH_take (i := 26) (v := ?_) rfl (by kernel_rfl) (by kernel_rfl) (by kernel_rfl) (fun _ _ _ h => h) (Or.inl ⟨rfl, ?_⟩) hHeld ?_
          rotate_left
          · (intro w hSw; (try dsimp only at hSw); go_simp; try (with_reducible rfl))
          simp only [List.getElem_toArray, List.getElem_cons_succ, List.getElem_cons_zero, Act.put, List.setIfInBounds_toArray, List.set_cons_zero, List.set_cons_succ]
          refine wpAnyH_take (i := 27) (v := ?_) rfl (by kernel_rfl) (by kernel_rfl) (by kernel_rfl) (fun _ _ _ h => h) (Or.inl ⟨rfl, ?_⟩) hHeld ?_
          rotate_left
          · (intro w hSw; (try dsimp only at hSw); go_simp; try (with_reducible rfl))
          simp only [List.getElem_toArray, List.getElem_cons_succ, List.getElem_cons_zero, Act.put, List.setIfInBounds_toArray, List.set_cons_zero, List.set_cons_succ]
          refine wpAnyH_ready (rs := [23]) (by kernel_rfl) (by simp) ?_
          refine AllReadyH.cons rfl (fun K hK => ?_) AllReadyH.nil
          simp only [List.getElem_toArray, List.getElem_cons_succ, List.getElem_cons_zero]
          go_simp
          refine D20.out.mono ?_
          rintro e w12 ⟨rfl, hw12⟩
          rw [← hw12]
          clear hw12
          refine hK.out _ _ hHeld (fun hHeld => ?_)
          clear hK K
          refine wpAnyH_ready (rs := [28]) (by kernel_rfl) (by simp) ?_
          refine AllReadyH.cons rfl (fun K hK => ?_) AllReadyH.nil
          simp only [List.getElem_toArray, List.getElem_cons_succ, List.getElem_cons_zero]
          go_simp
          refine D21.out.mono ?_
          rintro e w13 ⟨rfl, hw13⟩
          rw [← hw13]
          clear hw13
          refine hK.out _ _ hHeld (fun hHeld => ?_)
          clear hK K
          refine wpAnyH_take (i := 29) (v := ?_) rfl (by kernel_rfl) (by kernel_rfl) (by kernel_rfl) (fun _ _ _ h => h) (Or.inl ⟨rfl, ?_⟩) hHeld ?_
          rotate_left
          · (intro w hSw; (try dsimp only at hSw); go_simp; try (with_reducible rfl))
          simp only [List.getElem_toArray, List.getElem_cons_succ, List.getElem_cons_zero, Act.put, List.setIfInBounds_toArray, List.set_cons_zero, List.set_cons_succ]
          refine wpAnyH_take (i := 30) (v := ?_) rfl (by kernel_rfl) (by kernel_rfl) (by kernel_rfl) (fun _ _ _ h => h) (Or.inl ⟨rfl, ?_⟩) hHeld ?_
          rotate_left
          · (intro w hSw; (try dsimp only at hSw); go_simp; try (with_reducible rfl))
          simp only [List.getElem_toArray, List.getElem_cons_succ, List.getElem_cons_zero, Act.put, List.setIfInBounds_toArray, List.set_cons_zero, List.set_cons_succ]
          refine wpAnyH_take (i := 31) (v := ?_) rfl (by kernel_rfl) (by kernel_rfl) (by kernel_rfl) (fun _ _ _ h => h) (Or.inl ⟨rfl, ?_⟩) hHeld ?_
          rotate_left
          · (intro w hSw; (try dsimp only at hSw); go_simp; try (with_reducible rfl))
          simp only [List.getElem_toArray, List.getElem_cons_succ, List.getElem_cons_zero, Act.put, List.setIfInBounds_toArray, List.set_cons_zero, List.set_cons_succ]
          refine wpAnyH_take (i := 32) (v := ?_) rfl (by kernel_rfl) (by kernel_rfl) (by kernel_rfl) (fun _ _ _ h => h) (Or.inl ⟨rfl, ?_⟩) hHeld ?_
          rotate_left
          · (intro w hSw; (try dsimp only at hSw); go_simp; try (with_reducible rfl))
          simp only [List.getElem_toArray, List.getElem_cons_succ, List.getElem_cons_zero, Act.put, List.setIfInBounds_toArray, List.set_cons_zero, List.set_cons_succ]
          refine wpAnyH_take (i := 33) (v := ?_) rfl (by kernel_rfl) (by kernel_rfl) (by kernel_rfl) (fun _ _ _ h => h) (Or.inl ⟨rfl, ?_⟩) hHeld ?_
          rotate_left
          · (intro w hSw; (try dsimp only at hSw); go_simp; try (with_reducible rfl))
          simp only [List.getElem_toArray, List.getElem_cons_succ, List.getElem_cons_zero, Act.put, List.setIfInBounds_toArray, List.set_cons_zero, List.set_cons_succ]
          refine wpAnyH_take (i := 34) (v := ?_) rfl (by kernel_rfl) (by kernel_rfl) (by kernel_rfl) (fun _ _ _ h => h) (Or.inl ⟨rfl, ?_⟩) hHeld ?_
          rotate_left
          · (intro w hSw; (try dsimp only at hSw); go_simp; try (with_reducible rfl))
          simp only [List.getElem_toArray, List.getElem_cons_succ, List.getElem_cons_zero, Act.put, List.setIfInBounds_toArray, List.set_cons_zero, List.set_cons_succ]
          refine wpAnyH_take (i := 35) (v := ?_) rfl (by kernel_rfl) (by kernel_rfl) (by kernel_rfl) (fun _ _ _ h => h) (Or.inl ⟨rfl, ?_⟩) hHeld ?_
          rotate_left
          · (intro w hSw; (try dsimp only at hSw); go_simp; try (with_reducible rfl))
          simp only [List.getElem_toArray, List.getElem_cons_succ, List.getElem_cons_zero, Act.put, List.setIfInBounds_toArray, List.set_cons_zero, List.set_cons_succ]
          refine wpAnyH_take (i := 36) (v := ?_) rfl (by kernel_rfl) (by kernel_rfl) (by kernel_rfl) (fun _ _ _ h => h) (Or.inl ⟨rfl, ?_⟩) hHeld ?_
          rotate_left
          · (intro w hSw; (try dsimp only at hSw); go_simp; try (with_reducible rfl))
          simp only [List.getElem_toArray, List.getElem_cons_succ, List.getElem_cons_zero, Act.put, List.setIfInBounds_toArray, List.set_cons_zero, List.set_cons_succ]
          refine wpAnyH_take (i := 37) (v := ?_) rfl (by kernel_rfl) (by kernel_rfl) (by kernel_rfl) (fun _ _ _ h => h) (Or.inl ⟨rfl, ?_⟩) hHeld ?_
          rotate_left
          · (intro w hSw; (try dsimp only at hSw); go_simp; try (with_reducible rfl))
          simp only [List.getElem_toArray, List.getElem_cons_succ, List.getElem_cons_zero, Act.put, List.setIfInBounds_toArray, List.set_cons_zero, List.set_cons_succ]
          refine wpAnyH_take (i := 38) (v := ?_) rfl (by kernel_rfl) (by kernel_rfl) (by kernel_rfl) (fun _ _ _ h => h) (Or.inl ⟨rfl, ?_⟩) hHeld ?_
          rotate_left
          · (intro w hSw; (try dsimp only at hSw); go_simp; try (with_reducible rfl))
          simp only [List.getElem_toArray, List.getElem_cons_succ, List.getElem_cons_zero, Act.put, List.setIfInBounds_toArray, List.set_cons_zero, List.set_cons_succ]
          refine wpAnyH_take (i := 39) (v := ?_) rfl (by kernel_rfl) (by kernel_rfl) (by kernel_rfl) (fun _ _ _ h => h) (Or.inl ⟨rfl, ?_⟩) hHeld ?_
          rotate_left
          · (intro w hSw; (try dsimp only at hSw); go_simp; try (with_reducible rfl))
          simp only [List.getElem_toArray, List.getElem_cons_succ, List.getElem_cons_zero, Act.put, List.setIfInBounds_toArray, List.set_cons_zero, List.set_cons_succ]
          refine wpAnyH_take (i := 40) (v := ?_) rfl (by kernel_rfl) (by kernel_rfl) (by kernel_rfl) (fun _ _ _ h => h) (Or.inl ⟨rfl, ?_⟩) hHeld ?_
          rotate_left
          · (intro w hSw; (try dsimp only at hSw); go_simp; try (with_reducible rfl))
          simp only [List.getElem_toArray, List.getElem_cons_succ, List.getElem_cons_zero, Act.put, List.setIfInBounds_toArray, List.set_cons_zero, List.set_cons_succ]
          refine wpAnyH_done (by kernel_rfl) ?_ _
          clear hHeld
          go_wp2_with fail
          go_roundg (200 - (j + 1))
          case measure => omega
          case rel => exact ⟨j + 1, nt, At, Rt, vat, _, rfl, by omega, by omega, rfl, by omega, LT.out, D10.out⟩
      · have hex : decide (j < len1) = false ∨ (decide (j < len1) = true ∧ decide ((j : Int) < 200) = false) := by
          by_cases h : j < len1
          · exact .inr ⟨decide_eq_true h, decide_eq_false (by omega)⟩
          · exact .inl (decide_eq_false h)
        clear hlt
        rcases hex with d1 | ⟨d1, d2⟩
        all_goals
          go_wp2_with fail
          refine (list_any E _ _ _ _ _ _ _ _ HD.out.hp.at_ HD.out.hp.good).mono ?_
          rintro e w7 ⟨ga, ca, DA, rfl, pa, sa, ia, _, fa⟩
          obtain rfl := LK.out.list pa sa
          have hN : DA.length ≤ 1000 := LK.out.gr.few
          rw [LK.out.len] at ia
          rw [LK.out.len]
          have IA := Lib.hid ia
          have F7 := Lib.hid (HD.out.fr.trans fa (fun y hy => .inl hy))
          have D7 := Lib.hid (HD.out.rf.fr fa)
          clear pa sa ia fa HD LK
          obtain ⟨ar, cr, hvr⟩ := rh_slice D7.out
          subst hvr
          have c1 : w7.cell? ⟨u + 2, 1, none⟩ = some (.slice ar DA.length cr) := D7.out.head.cell 1
          go_wp2_with fail
          clear c1
          obtain ⟨wo2, rfl⟩ : ∃ wo2, wo2 = wr := ⟨_, rfl⟩
          go_loopg [218] DA.length (fun k i wr => ∃ q : Nat, k = DA.length - q ∧ q ≤ DA.length ∧ i = .int .i64 q ∧ Fr [] w7 wr)
          case atStart => exact ⟨0, rfl, by omega, rfl, Fr.refl [] _⟩
          case round =>
            obtain ⟨q, rfl, hq, rfl, hfq⟩ := hrel
            have HFQ := Lib.hid hfq
            clear hfq
            by_cases hlt : q < DA.length
            · have d7 : decide (q < DA.length) = true := decide_eq_true hlt
              have q0 : (0 : Int) ≤ (q : Int) := by omega
              have q1 : (q : Int) < (DA.length : Int) := by omega
              obtain ⟨g1, o1, rfl, _⟩ := IA.out.at_ (by omega)
              obtain ⟨g2, cap2, C2, hv2, _, _, hR2⟩ := own_row37 D7.out.row (by omega)
              cases hv2
              have c1 : wr.cell? ⟨u + 2, 1, none⟩ = some (.slice (some ⟨g2, 0, none⟩) DA.length cr) := (D7.out.fr HFQ.out).head.cell 1
              have x0 := cell_fr (IA.out.cell hlt (r := 0) (by omega) rfl) HFQ.out
              have x1 := cell_fr (IA.out.cell hlt (r := 1) (by omega) rfl) HFQ.out
              have x2 := cell_fr (IA.out.cell hlt (r := 2) (by omega) rfl) HFQ.out
              have y0 : wr.cell? ⟨g2, q * 3, none⟩ = some (.int .i64 (DA.getD q default).id) := cell_fr (row37_at hR2 hlt 0 (by omega)) HFQ.out
              have y1 : wr.cell? ⟨g2, q * 3 + 1, none⟩ = some (.int .i64 (DA.getD q default).base) := cell_fr (row37_at hR2 hlt 1 (by omega)) HFQ.out
              have y2 : wr.cell? ⟨g2, q * 3 + 2, none⟩ = some (.int .i64 (DA.getD q default).since) := cell_fr (row37_at hR2 hlt 2 (by omega)) HFQ.out
              simp only [Nat.add_zero, ← Nat.add_assoc] at x0 x1 x2
              clear hR2
              generalize DA.getD q default = z at x0 x1 x2 y0 y1 y2
              go_wp2_with fail
              go_quiet (fail)
              go_wp2_with fail
              go_roundg (DA.length - (q + 1))
              case measure => omega
              case rel => exact ⟨q + 1, rfl, by omega, rfl, HFQ.out.drewN _⟩
            · have d7 : decide (q < DA.length) = false := decide_eq_false hlt
              have FF := Lib.hid (F7.out.trans HFQ.out (fun y hy => .inl hy))
              clear hlt
              go_wp2_with fail
              go_ret
              exact ⟨rfl, FF.out.nil_below⟩
  · go_enter Try.func3, Try.ntmps3
    go_wp2_with fail
    refine (awake_any _).mono ?_
    rintro e w1 ⟨rfl, f1⟩
    have F1 := Lib.hid f1
    clear f1
    go_wp2_with fail
    refine (new_bad a0 _ hso).mono ?_
    rintro e w2 ⟨rfl, hw2⟩
    rw [← hw2]
    clear hw2
    go_wp2_with fail
    refine (rnew_bad a0 _ hso).mono ?_
    rintro e w3 ⟨rfl, hw3⟩
    rw [← hw3]
    clear hw3
    go_wp2_with fail
    go_loopg [11] 0 (fun k i wr => k = 0 ∧ i = .int .i64 0 ∧ w1 = wr)
    case atStart => exact ⟨rfl, rfl, rfl⟩
    case round =>
      obtain ⟨rfl, rfl, rfl⟩ := hrel
      by_cases hl : 0 < len1
      · have d1 : decide (0 < len1) = true := decide_eq_true hl
        have d2 : decide ((0 : Int) < (len1 : Int)) = true := decide_eq_true (by omega)
        go_wp2_with fail
        go_ret
        exact ⟨rfl, F1.out.nil_below⟩
      · have d1 : decide (0 < len1) = false := decide_eq_false hl
        have d2 : decide ((0 : Int) < (len1 : Int)) = false := decide_eq_false (by omega)
        go_wp2_with fail
        go_ret
        exact ⟨rfl, F1.out.nil_below⟩
end Go.Proofs.Ytpjmmhpkiepbmaa
