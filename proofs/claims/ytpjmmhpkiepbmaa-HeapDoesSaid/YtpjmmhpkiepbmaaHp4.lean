/- An item falls. (Printed by genhp4.py.) -/
import Derived.Test.YtpjmmhpkiepbmaaHp3

set_option linter.unusedVariables false
set_option linter.unusedSimpArgs false
namespace Go.Proofs.Ytpjmmhpkiepbmaa
open Go.RowKit
/-- The best of an item and the first c of the two below it. -/
def bestTo (s : Int) (L : List ItD) (i : Nat) : Nat → Nat
  | 0 => i
  | c + 1 => if 2 * i + 1 + c < L.length ∧ aheadB s (L.getD (2 * i + 1 + c) default) (L.getD (bestTo s L i c) default) = true then 2 * i + 1 + c else bestTo s L i c
theorem bestTo_lt (s : Int) (L : List ItD) (i : Nat) (hi : i < L.length) : ∀ c, bestTo s L i c < L.length
  | 0 => hi
  | c + 1 => by
    rw [bestTo]
    split
    · rename_i h; exact h.1
    · exact bestTo_lt s L i hi c
theorem bestTo_ge (s : Int) (L : List ItD) (i : Nat) : ∀ c, i ≤ bestTo s L i c
  | 0 => Nat.le_refl _
  | c + 1 => by
    rw [bestTo]
    split
    · omega
    · exact bestTo_ge s L i c
theorem bestTo_out {s : Int} {L : List ItD} {i c : Nat} (h : ¬ 2 * i + 1 + c < L.length) : ∀ d, bestTo s L i (c + d) = bestTo s L i c
  | 0 => rfl
  | d + 1 => by
    rw [← Nat.add_assoc, bestTo, if_neg (by omega)]
    exact bestTo_out h d
theorem bestTo_yes {s : Int} {L : List ItD} {i c : Nat} (h : 2 * i + 1 + c < L.length) (ha : aheadB s (L.getD (2 * i + 1 + c) default) (L.getD (bestTo s L i c) default) = true) : bestTo s L i (c + 1) = 2 * i + 1 + c := by rw [bestTo, if_pos ⟨h, ha⟩]
theorem bestTo_no {s : Int} {L : List ItD} {i c : Nat} (ha : aheadB s (L.getD (2 * i + 1 + c) default) (L.getD (bestTo s L i c) default) = false) : bestTo s L i (c + 1) = bestTo s L i c := by rw [bestTo, if_neg (by rw [ha]; simp)]
def downL (s : Int) (L : List ItD) (i : Nat) : List ItD :=
  if h : i < L.length ∧ bestTo s L i 2 ≠ i then downL s (swapL L i (bestTo s L i 2)) (bestTo s L i 2) else L
termination_by L.length - i
decreasing_by
  rw [swapL_length]
  have h1 := bestTo_ge s L i 2
  have h2 := bestTo_lt s L i h.1 2
  omega
theorem downL_stop {s : Int} {L : List ItD} {i : Nat} (h : bestTo s L i 2 = i) : downL s L i = L := by rw [downL, dif_neg (fun h' => h'.2 h)]
theorem downL_go {s : Int} {L : List ItD} {i : Nat} (hi : i < L.length) (h : bestTo s L i 2 ≠ i) : downL s L i = downL s (swapL L i (bestTo s L i 2)) (bestTo s L i 2) := by rw [downL, dif_pos ⟨hi, h⟩]
set_option maxRecDepth 100000 in
set_option maxHeartbeats 8000000 in
theorem down_any (E : ElemOf Try.prog 3 Int) (hE : ∀ v, E.val v = .int .i64 v) (hEg : ∀ v, inI v → E.good v) (b m base n : Nat) (step : Int) (L : List ItD) (v : Value) (i : Nat) (w : World) (h : HpAt E w b m base n step L v) (hi : i < L.length) (hg : Good step L) (hn : n + 2 * L.length ≤ 9000000000) :
    Calls Try.prog 27 #[.pointer (some ⟨b, 0, none⟩), .int .i64 i] w fun e w' => e = .returned (.tuple #[]) ∧ (∃ n', n' ≤ n + 2 * L.length ∧ HpAt E w' b m base n' step (downL step L i) v) ∧ Fr (m :: v.ownBlock.toList) w w' := by
  have HH := Lib.hid h
  have GG := Lib.hid hg
  clear h hg
  generalize hT : downL step L i = T
  have REL0 := Lib.hid hT
  clear hT
  go_enter Try.func27, Try.ntmps27
  go_wp2_with fail
  refine wp_scope_jumps 0 (fun a' w' => ∃ (q n' : Nat) (L' : List ItD) (u4 u5 u6 u7 u8 u9 u10 u11 u12 u13 u14 u15 u16 u17 u18 u19 u20 u21 u22 u23 u24 u25 u26 u27 u28 u29 u30 u31 u32 u33 u34 u35 u36 u37 u38 u39 u40 u41 u42 u43 u44 u45 u46 u47 u48 u49 u50 : Value), a' = { tmps := #[.pointer (some ⟨b, 0, none⟩), .int .i64 (q : Nat), undef, undef, u4, u5, u6, u7, u8, u9, u10, u11, u12, u13, u14, u15, u16, u17, u18, u19, u20, u21, u22, u23, u24, u25, u26, u27, u28, u29, u30, u31, u32, u33, u34, u35, u36, u37, u38, u39, u40, u41, u42, u43, u44, u45, u46, u47, u48, u49, u50], defers := [] } ∧ i ≤ q ∧ q < L'.length ∧ HpAt E w' b m base n' step L' v ∧ n' + 2 * (L.length - q) ≤ n + 2 * (L.length - i) ∧ Good step L' ∧ L'.length = L.length ∧ downL step L' q = T ∧ Fr (m :: v.ownBlock.toList) w w') (fun a' _ => L.length - (intOf (a'.tmps.getD 1 undef)).toNat) rfl ?_ ?_
  · go_wp2_with fail
    go_step3
    have HQ := Lib.hid HH.out
    have GQ := Lib.hid GG.out
    have hql : i < L.length := hi
    have hqi : i ≤ i := Nat.le_refl _
    have hnq : n + 2 * (L.length - i) ≤ n + 2 * (L.length - i) := Nat.le_refl _
    have HLL := Lib.hid (Nat.le_refl L.length)
    have REL := REL0
    have FQ := Lib.hid (Fr.refl (m :: v.ownBlock.toList) w)
    obtain ⟨g, cap, C, rfl, hgb, _, _, _, hR⟩ := own_row HQ.out.row (by omega)
    have RQ := Lib.hid hR
    have c0 : w.cell? ⟨b, 0, none⟩ = some (.int .i64 step) := HQ.out.head.cell 0
    have c1 : w.cell? ⟨b, 1, none⟩ = some (.slice (some ⟨g, 0, none⟩) L.length cap) := HQ.out.head.cell 1
    have hfew := GQ.out.few
    clear hR
    go_wp2_with fail
    go_loopg [4, 5] 3 (fun r bst kk wr => ∃ (c K : Nat), r = 3 - c ∧ c ≤ 2 ∧ K = 2 * i + 1 + c ∧ bst = .int .i64 (bestTo step L i c : Nat) ∧ kk = .int .i64 (K : Nat) ∧ Fr [] w wr)
    case atStart => exact ⟨0, 2 * i + 1, rfl, by omega, rfl, rfl, congrArg (Value.int .i64) (by omega), Fr.refl _ _⟩
    case round =>
      obtain ⟨c, K, rfl, hc, hK, rfl, rfl, hF⟩ := hrel
      have F := Lib.hid hF
      have d0 := cell_fr c0 hF
      have d1 := cell_fr c1 hF
      have hbl := bestTo_lt step L i hql c
      clear hF
      by_cases hc2 : c < 2
      · have dk : decide ((K : Int) ≤ 2 * (i : Int) + 2) = true := decide_eq_true (by omega)
        by_cases hkl : K < L.length
        · have dl : decide (K < L.length) = true := decide_eq_true hkl
          have hyes := @bestTo_yes step L i c (by omega)
          have hno := @bestTo_no step L i c
          rw [← hK] at hyes hno
          have a0 : wr.cell? ⟨g, K * 3, none⟩ = some (.int .i64 (L.getD K default).id) := cell_fr (rowI_at RQ.out hkl 0 (by omega)) F.out
          have a1 : wr.cell? ⟨g, K * 3 + 1, none⟩ = some (.int .i64 (L.getD K default).base) := cell_fr (rowI_at RQ.out hkl 1 (by omega)) F.out
          have a2 : wr.cell? ⟨g, K * 3 + 2, none⟩ = some (.int .i64 (L.getD K default).since) := cell_fr (rowI_at RQ.out hkl 2 (by omega)) F.out
          generalize hB : bestTo step L i c = t at hbl hyes hno ⊢
          have HB := Lib.hid hB
          have b0 : wr.cell? ⟨g, t * 3, none⟩ = some (.int .i64 (L.getD t default).id) := cell_fr (rowI_at RQ.out hbl 0 (by omega)) F.out
          have b1 : wr.cell? ⟨g, t * 3 + 1, none⟩ = some (.int .i64 (L.getD t default).base) := cell_fr (rowI_at RQ.out hbl 1 (by omega)) F.out
          have b2 : wr.cell? ⟨g, t * 3 + 2, none⟩ = some (.int .i64 (L.getD t default).since) := cell_fr (rowI_at RQ.out hbl 2 (by omega)) F.out
          have A1 := ahead_any b step (L.getD K default) (L.getD t default) wr.drew d0 GQ.out.step (GQ.out.ok _ (getD_mem L K hkl)) (GQ.out.ok _ (getD_mem L t hbl))
          generalize L.getD K default = x at a0 a1 a2 A1 hyes hno
          generalize L.getD t default = y at b0 b1 b2 A1 hyes hno
          generalize aheadB step x y = B at A1 hyes hno
          simp only [ItD.val] at A1
          have AA := Lib.hid A1
          have KP : ∀ wz, Fr [] wr.drew wz → (wz.cell? ⟨b, 1, none⟩ = some (.slice (some ⟨g, 0, none⟩) L.length cap) ∧ wz.cell? ⟨g, K * 3, none⟩ = some (.int .i64 x.id) ∧ wz.cell? ⟨g, K * 3 + 1, none⟩ = some (.int .i64 x.base) ∧ wz.cell? ⟨g, K * 3 + 2, none⟩ = some (.int .i64 x.since) ∧ wz.cell? ⟨g, t * 3, none⟩ = some (.int .i64 y.id) ∧ wz.cell? ⟨g, t * 3 + 1, none⟩ = some (.int .i64 y.base) ∧ wz.cell? ⟨g, t * 3 + 2, none⟩ = some (.int .i64 y.since)) := fun wz hF => by
            have hF' := ((Fr.refl [] wr).drew).trans hF (by simp)
            exact ⟨cell_fr d1 hF', cell_fr a0 hF', cell_fr a1 hF', cell_fr a2 hF', cell_fr b0 hF', cell_fr b1 hF', cell_fr b2 hF'⟩
          have KP := Lib.hid KP
          have hq0 : (0 : Int) ≤ (K : Int) := by omega
          have hq1 : (K : Int) < (L.length : Int) := by omega
          have hk0 : (0 : Int) ≤ (t : Int) := by omega
          have hk1 : (t : Int) < (L.length : Int) := by omega
          have HYES := Lib.hid hyes
          have HNO := Lib.hid hno
          have HK := Lib.hid hK
          clear A1 hyes hno hK hB
          go_wp2_with fail
          cases B
          · skip
            refine wp_region_held_drew (S := (fun w' => w'.cell? ⟨b, 1, none⟩ = some (.slice (some ⟨g, 0, none⟩) L.length cap) ∧ w'.cell? ⟨g, K * 3, none⟩ = some (.int .i64 x.id) ∧ w'.cell? ⟨g, K * 3 + 1, none⟩ = some (.int .i64 x.base) ∧ w'.cell? ⟨g, K * 3 + 2, none⟩ = some (.int .i64 x.since) ∧ w'.cell? ⟨g, t * 3, none⟩ = some (.int .i64 y.id) ∧ w'.cell? ⟨g, t * 3 + 1, none⟩ = some (.int .i64 y.base) ∧ w'.cell? ⟨g, t * 3 + 2, none⟩ = some (.int .i64 y.since))) (by kernel_rfl) (KP.out _ (Fr.refl _ _)) (fun hHeld => ?_)
            refine wpAnyH_take (i := 0) (v := ?_) rfl (by kernel_rfl) (by kernel_rfl) (by kernel_rfl) (fun _ _ _ h => h) (Or.inl ⟨rfl, ?_⟩) hHeld ?_
            rotate_left
            · (intro w hSw; (try dsimp only at hSw); go_simp; try (with_reducible rfl))
            simp only [List.getElem_toArray, List.getElem_cons_succ, List.getElem_cons_zero, Act.put, List.setIfInBounds_toArray, List.set_cons_zero, List.set_cons_succ]
            refine wpAnyH_take (i := 1) (v := ?_) rfl (by kernel_rfl) (by kernel_rfl) (by kernel_rfl) (fun _ _ _ h => h) (Or.inl ⟨rfl, ?_⟩) hHeld ?_
            rotate_left
            · (intro w hSw; (try dsimp only at hSw); go_simp; try (with_reducible rfl))
            simp only [List.getElem_toArray, List.getElem_cons_succ, List.getElem_cons_zero, Act.put, List.setIfInBounds_toArray, List.set_cons_zero, List.set_cons_succ]
            refine wpAnyH_take (i := 2) (v := ?_) rfl (by kernel_rfl) (by kernel_rfl) (by kernel_rfl) (fun _ _ _ h => h) (Or.inl ⟨rfl, ?_⟩) hHeld ?_
            rotate_left
            · (intro w hSw; (try dsimp only at hSw); go_simp; try (with_reducible rfl))
            simp only [List.getElem_toArray, List.getElem_cons_succ, List.getElem_cons_zero, Act.put, List.setIfInBounds_toArray, List.set_cons_zero, List.set_cons_succ]
            refine wpAnyH_take (i := 3) (v := ?_) rfl (by kernel_rfl) (by kernel_rfl) (by kernel_rfl) (fun _ _ _ h => h) (Or.inl ⟨rfl, ?_⟩) hHeld ?_
            rotate_left
            · (intro w hSw; (try dsimp only at hSw); go_simp; try (with_reducible rfl))
            simp only [List.getElem_toArray, List.getElem_cons_succ, List.getElem_cons_zero, Act.put, List.setIfInBounds_toArray, List.set_cons_zero, List.set_cons_succ]
            refine wpAnyH_take (i := 4) (v := ?_) rfl (by kernel_rfl) (by kernel_rfl) (by kernel_rfl) (fun _ _ _ h => h) (Or.inl ⟨rfl, ?_⟩) hHeld ?_
            rotate_left
            · (intro w hSw; (try dsimp only at hSw); go_simp; try (with_reducible rfl))
            simp only [List.getElem_toArray, List.getElem_cons_succ, List.getElem_cons_zero, Act.put, List.setIfInBounds_toArray, List.set_cons_zero, List.set_cons_succ]
            refine wpAnyH_take (i := 5) (v := ?_) rfl (by kernel_rfl) (by kernel_rfl) (by kernel_rfl) (fun _ _ _ h => h) (Or.inl ⟨rfl, ?_⟩) hHeld ?_
            rotate_left
            · (intro w hSw; (try dsimp only at hSw); go_simp; try (with_reducible rfl))
            simp only [List.getElem_toArray, List.getElem_cons_succ, List.getElem_cons_zero, Act.put, List.setIfInBounds_toArray, List.set_cons_zero, List.set_cons_succ]
            refine wpAnyH_take (i := 6) (v := ?_) rfl (by kernel_rfl) (by kernel_rfl) (by kernel_rfl) (fun _ _ _ h => h) (Or.inl ⟨rfl, ?_⟩) hHeld ?_
            rotate_left
            · (intro w hSw; (try dsimp only at hSw); go_simp; try (with_reducible rfl))
            simp only [List.getElem_toArray, List.getElem_cons_succ, List.getElem_cons_zero, Act.put, List.setIfInBounds_toArray, List.set_cons_zero, List.set_cons_succ]
            refine wpAnyH_take (i := 7) (v := ?_) rfl (by kernel_rfl) (by kernel_rfl) (by kernel_rfl) (fun _ _ _ h => h) (Or.inl ⟨rfl, ?_⟩) hHeld ?_
            rotate_left
            · (intro w hSw; (try dsimp only at hSw); go_simp; try (with_reducible rfl))
            simp only [List.getElem_toArray, List.getElem_cons_succ, List.getElem_cons_zero, Act.put, List.setIfInBounds_toArray, List.set_cons_zero, List.set_cons_succ]
            refine wpAnyH_take (i := 8) (v := ?_) rfl (by kernel_rfl) (by kernel_rfl) (by kernel_rfl) (fun _ _ _ h => h) (Or.inl ⟨rfl, ?_⟩) hHeld ?_
            rotate_left
            · (intro w hSw; (try dsimp only at hSw); go_simp; try (with_reducible rfl))
            simp only [List.getElem_toArray, List.getElem_cons_succ, List.getElem_cons_zero, Act.put, List.setIfInBounds_toArray, List.set_cons_zero, List.set_cons_succ]
            refine wpAnyH_take (i := 9) (v := ?_) rfl (by kernel_rfl) (by kernel_rfl) (by kernel_rfl) (fun _ _ _ h => h) (Or.inl ⟨rfl, ?_⟩) hHeld ?_
            rotate_left
            · (intro w hSw; (try dsimp only at hSw); go_simp; try (with_reducible rfl))
            simp only [List.getElem_toArray, List.getElem_cons_succ, List.getElem_cons_zero, Act.put, List.setIfInBounds_toArray, List.set_cons_zero, List.set_cons_succ]
            refine wpAnyH_take (i := 10) (v := ?_) rfl (by kernel_rfl) (by kernel_rfl) (by kernel_rfl) (fun _ _ _ h => h) (Or.inl ⟨rfl, ?_⟩) hHeld ?_
            rotate_left
            · (intro w hSw; (try dsimp only at hSw); go_simp; try (with_reducible rfl))
            simp only [List.getElem_toArray, List.getElem_cons_succ, List.getElem_cons_zero, Act.put, List.setIfInBounds_toArray, List.set_cons_zero, List.set_cons_succ]
            refine wpAnyH_take (i := 11) (v := ?_) rfl (by kernel_rfl) (by kernel_rfl) (by kernel_rfl) (fun _ _ _ h => h) (Or.inl ⟨rfl, ?_⟩) hHeld ?_
            rotate_left
            · (intro w hSw; (try dsimp only at hSw); go_simp; try (with_reducible rfl))
            simp only [List.getElem_toArray, List.getElem_cons_succ, List.getElem_cons_zero, Act.put, List.setIfInBounds_toArray, List.set_cons_zero, List.set_cons_succ]
            refine wpAnyH_take (i := 12) (v := ?_) rfl (by kernel_rfl) (by kernel_rfl) (by kernel_rfl) (fun _ _ _ h => h) (Or.inl ⟨rfl, ?_⟩) hHeld ?_
            rotate_left
            · (intro w hSw; (try dsimp only at hSw); go_simp; try (with_reducible rfl))
            simp only [List.getElem_toArray, List.getElem_cons_succ, List.getElem_cons_zero, Act.put, List.setIfInBounds_toArray, List.set_cons_zero, List.set_cons_succ]
            refine wpAnyH_take (i := 13) (v := ?_) rfl (by kernel_rfl) (by kernel_rfl) (by kernel_rfl) (fun _ _ _ h => h) (Or.inl ⟨rfl, ?_⟩) hHeld ?_
            rotate_left
            · (intro w hSw; (try dsimp only at hSw); go_simp; try (with_reducible rfl))
            simp only [List.getElem_toArray, List.getElem_cons_succ, List.getElem_cons_zero, Act.put, List.setIfInBounds_toArray, List.set_cons_zero, List.set_cons_succ]
            refine wpAnyH_take (i := 14) (v := ?_) rfl (by kernel_rfl) (by kernel_rfl) (by kernel_rfl) (fun _ _ _ h => h) (Or.inl ⟨rfl, ?_⟩) hHeld ?_
            rotate_left
            · (intro w hSw; (try dsimp only at hSw); go_simp; try (with_reducible rfl))
            simp only [List.getElem_toArray, List.getElem_cons_succ, List.getElem_cons_zero, Act.put, List.setIfInBounds_toArray, List.set_cons_zero, List.set_cons_succ]
            refine wpAnyH_ready (rs := [15]) (by kernel_rfl) (by simp) ?_
            refine AllReadyH.cons rfl (fun K hK => ?_) AllReadyH.nil
            simp only [List.getElem_toArray, List.getElem_cons_succ, List.getElem_cons_zero]
            go_simp
            go_wp2_with (go_at_call 31; refine AA.out.mono ?_; rintro e w3 ⟨rfl, hF3⟩)
            refine hK.out _ _ (by first | (exact KP.out _ hF3) | go_keep) (fun hHeld => ?_)
            clear hK K
            refine wpAnyH_done (by kernel_rfl) ?_ _
            clear hHeld
            have F3 := Lib.hid (F.out.trans (((Fr.refl [] wr).drew).trans hF3 (by simp)) (by simp))
            have HBB := Lib.hid (HNO.out (by first | exact rfl | trivial))
            clear hF3
            go_wp2_with fail
            go_roundg (3 - (c + 1))
            case measure => omega
            case rel => exact ⟨c + 1, K + 1, rfl, by omega, by have := HK.out; omega, by rw [HBB.out], rfl, F3.out⟩
          · skip
            refine wp_region_held_drew (S := (fun w' => w'.cell? ⟨b, 1, none⟩ = some (.slice (some ⟨g, 0, none⟩) L.length cap) ∧ w'.cell? ⟨g, K * 3, none⟩ = some (.int .i64 x.id) ∧ w'.cell? ⟨g, K * 3 + 1, none⟩ = some (.int .i64 x.base) ∧ w'.cell? ⟨g, K * 3 + 2, none⟩ = some (.int .i64 x.since) ∧ w'.cell? ⟨g, t * 3, none⟩ = some (.int .i64 y.id) ∧ w'.cell? ⟨g, t * 3 + 1, none⟩ = some (.int .i64 y.base) ∧ w'.cell? ⟨g, t * 3 + 2, none⟩ = some (.int .i64 y.since))) (by kernel_rfl) (KP.out _ (Fr.refl _ _)) (fun hHeld => ?_)
            refine wpAnyH_take (i := 0) (v := ?_) rfl (by kernel_rfl) (by kernel_rfl) (by kernel_rfl) (fun _ _ _ h => h) (Or.inl ⟨rfl, ?_⟩) hHeld ?_
            rotate_left
            · (intro w hSw; (try dsimp only at hSw); go_simp; try (with_reducible rfl))
            simp only [List.getElem_toArray, List.getElem_cons_succ, List.getElem_cons_zero, Act.put, List.setIfInBounds_toArray, List.set_cons_zero, List.set_cons_succ]
            refine wpAnyH_take (i := 1) (v := ?_) rfl (by kernel_rfl) (by kernel_rfl) (by kernel_rfl) (fun _ _ _ h => h) (Or.inl ⟨rfl, ?_⟩) hHeld ?_
            rotate_left
            · (intro w hSw; (try dsimp only at hSw); go_simp; try (with_reducible rfl))
            simp only [List.getElem_toArray, List.getElem_cons_succ, List.getElem_cons_zero, Act.put, List.setIfInBounds_toArray, List.set_cons_zero, List.set_cons_succ]
            refine wpAnyH_take (i := 2) (v := ?_) rfl (by kernel_rfl) (by kernel_rfl) (by kernel_rfl) (fun _ _ _ h => h) (Or.inl ⟨rfl, ?_⟩) hHeld ?_
            rotate_left
            · (intro w hSw; (try dsimp only at hSw); go_simp; try (with_reducible rfl))
            simp only [List.getElem_toArray, List.getElem_cons_succ, List.getElem_cons_zero, Act.put, List.setIfInBounds_toArray, List.set_cons_zero, List.set_cons_succ]
            refine wpAnyH_take (i := 3) (v := ?_) rfl (by kernel_rfl) (by kernel_rfl) (by kernel_rfl) (fun _ _ _ h => h) (Or.inl ⟨rfl, ?_⟩) hHeld ?_
            rotate_left
            · (intro w hSw; (try dsimp only at hSw); go_simp; try (with_reducible rfl))
            simp only [List.getElem_toArray, List.getElem_cons_succ, List.getElem_cons_zero, Act.put, List.setIfInBounds_toArray, List.set_cons_zero, List.set_cons_succ]
            refine wpAnyH_take (i := 4) (v := ?_) rfl (by kernel_rfl) (by kernel_rfl) (by kernel_rfl) (fun _ _ _ h => h) (Or.inl ⟨rfl, ?_⟩) hHeld ?_
            rotate_left
            · (intro w hSw; (try dsimp only at hSw); go_simp; try (with_reducible rfl))
            simp only [List.getElem_toArray, List.getElem_cons_succ, List.getElem_cons_zero, Act.put, List.setIfInBounds_toArray, List.set_cons_zero, List.set_cons_succ]
            refine wpAnyH_take (i := 5) (v := ?_) rfl (by kernel_rfl) (by kernel_rfl) (by kernel_rfl) (fun _ _ _ h => h) (Or.inl ⟨rfl, ?_⟩) hHeld ?_
            rotate_left
            · (intro w hSw; (try dsimp only at hSw); go_simp; try (with_reducible rfl))
            simp only [List.getElem_toArray, List.getElem_cons_succ, List.getElem_cons_zero, Act.put, List.setIfInBounds_toArray, List.set_cons_zero, List.set_cons_succ]
            refine wpAnyH_take (i := 6) (v := ?_) rfl (by kernel_rfl) (by kernel_rfl) (by kernel_rfl) (fun _ _ _ h => h) (Or.inl ⟨rfl, ?_⟩) hHeld ?_
            rotate_left
            · (intro w hSw; (try dsimp only at hSw); go_simp; try (with_reducible rfl))
            simp only [List.getElem_toArray, List.getElem_cons_succ, List.getElem_cons_zero, Act.put, List.setIfInBounds_toArray, List.set_cons_zero, List.set_cons_succ]
            refine wpAnyH_take (i := 7) (v := ?_) rfl (by kernel_rfl) (by kernel_rfl) (by kernel_rfl) (fun _ _ _ h => h) (Or.inl ⟨rfl, ?_⟩) hHeld ?_
            rotate_left
            · (intro w hSw; (try dsimp only at hSw); go_simp; try (with_reducible rfl))
            simp only [List.getElem_toArray, List.getElem_cons_succ, List.getElem_cons_zero, Act.put, List.setIfInBounds_toArray, List.set_cons_zero, List.set_cons_succ]
            refine wpAnyH_take (i := 8) (v := ?_) rfl (by kernel_rfl) (by kernel_rfl) (by kernel_rfl) (fun _ _ _ h => h) (Or.inl ⟨rfl, ?_⟩) hHeld ?_
            rotate_left
            · (intro w hSw; (try dsimp only at hSw); go_simp; try (with_reducible rfl))
            simp only [List.getElem_toArray, List.getElem_cons_succ, List.getElem_cons_zero, Act.put, List.setIfInBounds_toArray, List.set_cons_zero, List.set_cons_succ]
            refine wpAnyH_take (i := 9) (v := ?_) rfl (by kernel_rfl) (by kernel_rfl) (by kernel_rfl) (fun _ _ _ h => h) (Or.inl ⟨rfl, ?_⟩) hHeld ?_
            rotate_left
            · (intro w hSw; (try dsimp only at hSw); go_simp; try (with_reducible rfl))
            simp only [List.getElem_toArray, List.getElem_cons_succ, List.getElem_cons_zero, Act.put, List.setIfInBounds_toArray, List.set_cons_zero, List.set_cons_succ]
            refine wpAnyH_take (i := 10) (v := ?_) rfl (by kernel_rfl) (by kernel_rfl) (by kernel_rfl) (fun _ _ _ h => h) (Or.inl ⟨rfl, ?_⟩) hHeld ?_
            rotate_left
            · (intro w hSw; (try dsimp only at hSw); go_simp; try (with_reducible rfl))
            simp only [List.getElem_toArray, List.getElem_cons_succ, List.getElem_cons_zero, Act.put, List.setIfInBounds_toArray, List.set_cons_zero, List.set_cons_succ]
            refine wpAnyH_take (i := 11) (v := ?_) rfl (by kernel_rfl) (by kernel_rfl) (by kernel_rfl) (fun _ _ _ h => h) (Or.inl ⟨rfl, ?_⟩) hHeld ?_
            rotate_left
            · (intro w hSw; (try dsimp only at hSw); go_simp; try (with_reducible rfl))
            simp only [List.getElem_toArray, List.getElem_cons_succ, List.getElem_cons_zero, Act.put, List.setIfInBounds_toArray, List.set_cons_zero, List.set_cons_succ]
            refine wpAnyH_take (i := 12) (v := ?_) rfl (by kernel_rfl) (by kernel_rfl) (by kernel_rfl) (fun _ _ _ h => h) (Or.inl ⟨rfl, ?_⟩) hHeld ?_
            rotate_left
            · (intro w hSw; (try dsimp only at hSw); go_simp; try (with_reducible rfl))
            simp only [List.getElem_toArray, List.getElem_cons_succ, List.getElem_cons_zero, Act.put, List.setIfInBounds_toArray, List.set_cons_zero, List.set_cons_succ]
            refine wpAnyH_take (i := 13) (v := ?_) rfl (by kernel_rfl) (by kernel_rfl) (by kernel_rfl) (fun _ _ _ h => h) (Or.inl ⟨rfl, ?_⟩) hHeld ?_
            rotate_left
            · (intro w hSw; (try dsimp only at hSw); go_simp; try (with_reducible rfl))
            simp only [List.getElem_toArray, List.getElem_cons_succ, List.getElem_cons_zero, Act.put, List.setIfInBounds_toArray, List.set_cons_zero, List.set_cons_succ]
            refine wpAnyH_take (i := 14) (v := ?_) rfl (by kernel_rfl) (by kernel_rfl) (by kernel_rfl) (fun _ _ _ h => h) (Or.inl ⟨rfl, ?_⟩) hHeld ?_
            rotate_left
            · (intro w hSw; (try dsimp only at hSw); go_simp; try (with_reducible rfl))
            simp only [List.getElem_toArray, List.getElem_cons_succ, List.getElem_cons_zero, Act.put, List.setIfInBounds_toArray, List.set_cons_zero, List.set_cons_succ]
            refine wpAnyH_ready (rs := [15]) (by kernel_rfl) (by simp) ?_
            refine AllReadyH.cons rfl (fun K hK => ?_) AllReadyH.nil
            simp only [List.getElem_toArray, List.getElem_cons_succ, List.getElem_cons_zero]
            go_simp
            go_wp2_with (go_at_call 31; refine AA.out.mono ?_; rintro e w3 ⟨rfl, hF3⟩)
            refine hK.out _ _ (by first | (exact KP.out _ hF3) | go_keep) (fun hHeld => ?_)
            clear hK K
            refine wpAnyH_done (by kernel_rfl) ?_ _
            clear hHeld
            have F3 := Lib.hid (F.out.trans (((Fr.refl [] wr).drew).trans hF3 (by simp)) (by simp))
            have HBB := Lib.hid (HYES.out (by first | exact rfl | trivial))
            clear hF3
            go_wp2_with fail
            go_roundg (3 - (c + 1))
            case measure => omega
            case rel => exact ⟨c + 1, K + 1, rfl, by omega, by have := HK.out; omega, by rw [HBB.out], rfl, F3.out⟩
        · skip
          have dl : decide (K < L.length) = false := decide_eq_false hkl
          have hbest : bestTo step L i 2 = bestTo step L i c := by have h := bestTo_out (s := step) (L := L) (i := i) (c := c) (by omega) (2 - c); rw [show c + (2 - c) = 2 by omega] at h; exact h
          have hstop := @downL_stop step L i
          have hgo := @downL_go step L i hql
          have hge := bestTo_ge step L i c
          rw [hbest] at hstop hgo
          generalize bestTo step L i c = t at hbl hstop hgo hge ⊢
          have HW := Lib.hid (HQ.out.fr F.out)
          have FW := Lib.hid (FQ.out.trans F.out (by simp))
          have HKQ := Lib.hid hK
          clear hbest hK
          by_cases hti : t = i
          · have HUP := Lib.hid ((hstop hti).symm.trans REL.out)
            have dn : ((t : Int) != (i : Int)) = false := by rw [hti]; simp
            clear hstop hgo
            go_wp2_with fail
            simp only [Exit.jump]
            go_end0
            exact ⟨rfl, ⟨n, by omega, by rw [← HUP.out]; exact HW.out⟩, FW.out⟩
          · have HUP := Lib.hid ((hgo hti).symm.trans REL.out)
            have dn : ((t : Int) != (i : Int)) = true := by rw [bne_iff_ne]; omega
            have C4 := swap_any E hE hEg b m base n step L _ i t wr HW.out hql hbl GQ.out.few (by omega) GQ.out.ids GQ.out.nd
            have C4 := Lib.hid C4
            clear hstop hgo
            go_wp2_with fail
            refine C4.out.mono ?_
            rintro e w4 ⟨rfl, hS, hF4⟩
            go_wp2_with fail
            go_step3
            have hll : (swapL L i t).length = L.length := by first | exact (swapL_length _ _ _).trans HLL.out | exact swapL_length _ _ _
            refine ⟨rfl, ⟨t, n + 2, swapL L i t, _, _, _, _, _, _, _, _, _, _, _, _, _, _, _, _, _, _, _, _, _, _, _, _, _, _, _, _, _, _, _, _, _, _, _, _, _, _, _, _, _, _, _, _, _, _, _, rfl, by omega, by rw [swapL_length]; exact hbl, hS, by have h := swapL_length L i t; omega, GQ.out.swap hql hbl, hll, HUP.out, FW.out.trans hF4 (fun y hy => .inl hy)⟩⟩
      · skip
        have dk : decide ((K : Int) ≤ 2 * (i : Int) + 2) = false := decide_eq_false (by omega)
        have hbest : bestTo step L i 2 = bestTo step L i c := by rw [show c = 2 by omega]
        have hstop := @downL_stop step L i
        have hgo := @downL_go step L i hql
        have hge := bestTo_ge step L i c
        rw [hbest] at hstop hgo
        generalize bestTo step L i c = t at hbl hstop hgo hge ⊢
        have HW := Lib.hid (HQ.out.fr F.out)
        have FW := Lib.hid (FQ.out.trans F.out (by simp))
        have HKQ := Lib.hid hK
        clear hbest hK
        by_cases hti : t = i
        · have HUP := Lib.hid ((hstop hti).symm.trans REL.out)
          have dn : ((t : Int) != (i : Int)) = false := by rw [hti]; simp
          clear hstop hgo
          go_wp2_with fail
          simp only [Exit.jump]
          go_end0
          exact ⟨rfl, ⟨n, by omega, by rw [← HUP.out]; exact HW.out⟩, FW.out⟩
        · have HUP := Lib.hid ((hgo hti).symm.trans REL.out)
          have dn : ((t : Int) != (i : Int)) = true := by rw [bne_iff_ne]; omega
          have C4 := swap_any E hE hEg b m base n step L _ i t wr HW.out hql hbl GQ.out.few (by omega) GQ.out.ids GQ.out.nd
          have C4 := Lib.hid C4
          clear hstop hgo
          go_wp2_with fail
          refine C4.out.mono ?_
          rintro e w4 ⟨rfl, hS, hF4⟩
          go_wp2_with fail
          go_step3
          have hll : (swapL L i t).length = L.length := by first | exact (swapL_length _ _ _).trans HLL.out | exact swapL_length _ _ _
          refine ⟨rfl, ⟨t, n + 2, swapL L i t, _, _, _, _, _, _, _, _, _, _, _, _, _, _, _, _, _, _, _, _, _, _, _, _, _, _, _, _, _, _, _, _, _, _, _, _, _, _, _, _, _, _, _, _, _, _, _, rfl, by omega, by rw [swapL_length]; exact hbl, hS, by have h := swapL_length L i t; omega, GQ.out.swap hql hbl, hll, HUP.out, FW.out.trans hF4 (fun y hy => .inl hy)⟩⟩
  · rintro a' w' ⟨q, n', L', u4, u5, u6, u7, u8, u9, u10, u11, u12, u13, u14, u15, u16, u17, u18, u19, u20, u21, u22, u23, u24, u25, u26, u27, u28, u29, u30, u31, u32, u33, u34, u35, u36, u37, u38, u39, u40, u41, u42, u43, u44, u45, u46, u47, u48, u49, u50, rfl, hqi, hql, hH, hnq, hG, hLL, hrel, hF⟩
    have HQ := Lib.hid hH
    have GQ := Lib.hid hG
    have HLL := Lib.hid hLL
    have REL := Lib.hid hrel
    have FQ := Lib.hid hF
    clear hH hG hLL hrel hF
    obtain ⟨g, cap, C, rfl, hgb, _, _, _, hR⟩ := own_row HQ.out.row (by omega)
    have RQ := Lib.hid hR
    have c0 : w'.cell? ⟨b, 0, none⟩ = some (.int .i64 step) := HQ.out.head.cell 0
    have c1 : w'.cell? ⟨b, 1, none⟩ = some (.slice (some ⟨g, 0, none⟩) L'.length cap) := HQ.out.head.cell 1
    have hfew := GQ.out.few
    clear hR
    go_wp2_with fail
    go_loopg [4, 5] 3 (fun r bst kk wr => ∃ (c K : Nat), r = 3 - c ∧ c ≤ 2 ∧ K = 2 * q + 1 + c ∧ bst = .int .i64 (bestTo step L' q c : Nat) ∧ kk = .int .i64 (K : Nat) ∧ Fr [] w' wr)
    case atStart => exact ⟨0, 2 * q + 1, rfl, by omega, rfl, rfl, congrArg (Value.int .i64) (by omega), Fr.refl _ _⟩
    case round =>
      obtain ⟨c, K, rfl, hc, hK, rfl, rfl, hF⟩ := hrel
      have F := Lib.hid hF
      have d0 := cell_fr c0 hF
      have d1 := cell_fr c1 hF
      have hbl := bestTo_lt step L' q hql c
      clear hF
      by_cases hc2 : c < 2
      · have dk : decide ((K : Int) ≤ 2 * (q : Int) + 2) = true := decide_eq_true (by omega)
        by_cases hkl : K < L'.length
        · have dl : decide (K < L'.length) = true := decide_eq_true hkl
          have hyes := @bestTo_yes step L' q c (by omega)
          have hno := @bestTo_no step L' q c
          rw [← hK] at hyes hno
          have a0 : wr.cell? ⟨g, K * 3, none⟩ = some (.int .i64 (L'.getD K default).id) := cell_fr (rowI_at RQ.out hkl 0 (by omega)) F.out
          have a1 : wr.cell? ⟨g, K * 3 + 1, none⟩ = some (.int .i64 (L'.getD K default).base) := cell_fr (rowI_at RQ.out hkl 1 (by omega)) F.out
          have a2 : wr.cell? ⟨g, K * 3 + 2, none⟩ = some (.int .i64 (L'.getD K default).since) := cell_fr (rowI_at RQ.out hkl 2 (by omega)) F.out
          generalize hB : bestTo step L' q c = t at hbl hyes hno ⊢
          have HB := Lib.hid hB
          have b0 : wr.cell? ⟨g, t * 3, none⟩ = some (.int .i64 (L'.getD t default).id) := cell_fr (rowI_at RQ.out hbl 0 (by omega)) F.out
          have b1 : wr.cell? ⟨g, t * 3 + 1, none⟩ = some (.int .i64 (L'.getD t default).base) := cell_fr (rowI_at RQ.out hbl 1 (by omega)) F.out
          have b2 : wr.cell? ⟨g, t * 3 + 2, none⟩ = some (.int .i64 (L'.getD t default).since) := cell_fr (rowI_at RQ.out hbl 2 (by omega)) F.out
          have A1 := ahead_any b step (L'.getD K default) (L'.getD t default) wr.drew d0 GQ.out.step (GQ.out.ok _ (getD_mem L' K hkl)) (GQ.out.ok _ (getD_mem L' t hbl))
          generalize L'.getD K default = x at a0 a1 a2 A1 hyes hno
          generalize L'.getD t default = y at b0 b1 b2 A1 hyes hno
          generalize aheadB step x y = B at A1 hyes hno
          simp only [ItD.val] at A1
          have AA := Lib.hid A1
          have KP : ∀ wz, Fr [] wr.drew wz → (wz.cell? ⟨b, 1, none⟩ = some (.slice (some ⟨g, 0, none⟩) L'.length cap) ∧ wz.cell? ⟨g, K * 3, none⟩ = some (.int .i64 x.id) ∧ wz.cell? ⟨g, K * 3 + 1, none⟩ = some (.int .i64 x.base) ∧ wz.cell? ⟨g, K * 3 + 2, none⟩ = some (.int .i64 x.since) ∧ wz.cell? ⟨g, t * 3, none⟩ = some (.int .i64 y.id) ∧ wz.cell? ⟨g, t * 3 + 1, none⟩ = some (.int .i64 y.base) ∧ wz.cell? ⟨g, t * 3 + 2, none⟩ = some (.int .i64 y.since)) := fun wz hF => by
            have hF' := ((Fr.refl [] wr).drew).trans hF (by simp)
            exact ⟨cell_fr d1 hF', cell_fr a0 hF', cell_fr a1 hF', cell_fr a2 hF', cell_fr b0 hF', cell_fr b1 hF', cell_fr b2 hF'⟩
          have KP := Lib.hid KP
          have hq0 : (0 : Int) ≤ (K : Int) := by omega
          have hq1 : (K : Int) < (L'.length : Int) := by omega
          have hk0 : (0 : Int) ≤ (t : Int) := by omega
          have hk1 : (t : Int) < (L'.length : Int) := by omega
          have HYES := Lib.hid hyes
          have HNO := Lib.hid hno
          have HK := Lib.hid hK
          clear A1 hyes hno hK hB
          go_wp2_with fail
          cases B
          · skip
            refine wp_region_held_drew (S := (fun w' => w'.cell? ⟨b, 1, none⟩ = some (.slice (some ⟨g, 0, none⟩) L'.length cap) ∧ w'.cell? ⟨g, K * 3, none⟩ = some (.int .i64 x.id) ∧ w'.cell? ⟨g, K * 3 + 1, none⟩ = some (.int .i64 x.base) ∧ w'.cell? ⟨g, K * 3 + 2, none⟩ = some (.int .i64 x.since) ∧ w'.cell? ⟨g, t * 3, none⟩ = some (.int .i64 y.id) ∧ w'.cell? ⟨g, t * 3 + 1, none⟩ = some (.int .i64 y.base) ∧ w'.cell? ⟨g, t * 3 + 2, none⟩ = some (.int .i64 y.since))) (by kernel_rfl) (KP.out _ (Fr.refl _ _)) (fun hHeld => ?_)
            refine wpAnyH_take (i := 0) (v := ?_) rfl (by kernel_rfl) (by kernel_rfl) (by kernel_rfl) (fun _ _ _ h => h) (Or.inl ⟨rfl, ?_⟩) hHeld ?_
            rotate_left
            · (intro w hSw; (try dsimp only at hSw); go_simp; try (with_reducible rfl))
            simp only [List.getElem_toArray, List.getElem_cons_succ, List.getElem_cons_zero, Act.put, List.setIfInBounds_toArray, List.set_cons_zero, List.set_cons_succ]
            refine wpAnyH_take (i := 1) (v := ?_) rfl (by kernel_rfl) (by kernel_rfl) (by kernel_rfl) (fun _ _ _ h => h) (Or.inl ⟨rfl, ?_⟩) hHeld ?_
            rotate_left
            · (intro w hSw; (try dsimp only at hSw); go_simp; try (with_reducible rfl))
            simp only [List.getElem_toArray, List.getElem_cons_succ, List.getElem_cons_zero, Act.put, List.setIfInBounds_toArray, List.set_cons_zero, List.set_cons_succ]
            refine wpAnyH_take (i := 2) (v := ?_) rfl (by kernel_rfl) (by kernel_rfl) (by kernel_rfl) (fun _ _ _ h => h) (Or.inl ⟨rfl, ?_⟩) hHeld ?_
            rotate_left
            · (intro w hSw; (try dsimp only at hSw); go_simp; try (with_reducible rfl))
            simp only [List.getElem_toArray, List.getElem_cons_succ, List.getElem_cons_zero, Act.put, List.setIfInBounds_toArray, List.set_cons_zero, List.set_cons_succ]
            refine wpAnyH_take (i := 3) (v := ?_) rfl (by kernel_rfl) (by kernel_rfl) (by kernel_rfl) (fun _ _ _ h => h) (Or.inl ⟨rfl, ?_⟩) hHeld ?_
            rotate_left
            · (intro w hSw; (try dsimp only at hSw); go_simp; try (with_reducible rfl))
            simp only [List.getElem_toArray, List.getElem_cons_succ, List.getElem_cons_zero, Act.put, List.setIfInBounds_toArray, List.set_cons_zero, List.set_cons_succ]
            refine wpAnyH_take (i := 4) (v := ?_) rfl (by kernel_rfl) (by kernel_rfl) (by kernel_rfl) (fun _ _ _ h => h) (Or.inl ⟨rfl, ?_⟩) hHeld ?_
            rotate_left
            · (intro w hSw; (try dsimp only at hSw); go_simp; try (with_reducible rfl))
            simp only [List.getElem_toArray, List.getElem_cons_succ, List.getElem_cons_zero, Act.put, List.setIfInBounds_toArray, List.set_cons_zero, List.set_cons_succ]
            refine wpAnyH_take (i := 5) (v := ?_) rfl (by kernel_rfl) (by kernel_rfl) (by kernel_rfl) (fun _ _ _ h => h) (Or.inl ⟨rfl, ?_⟩) hHeld ?_
            rotate_left
            · (intro w hSw; (try dsimp only at hSw); go_simp; try (with_reducible rfl))
            simp only [List.getElem_toArray, List.getElem_cons_succ, List.getElem_cons_zero, Act.put, List.setIfInBounds_toArray, List.set_cons_zero, List.set_cons_succ]
            refine wpAnyH_take (i := 6) (v := ?_) rfl (by kernel_rfl) (by kernel_rfl) (by kernel_rfl) (fun _ _ _ h => h) (Or.inl ⟨rfl, ?_⟩) hHeld ?_
            rotate_left
            · (intro w hSw; (try dsimp only at hSw); go_simp; try (with_reducible rfl))
            simp only [List.getElem_toArray, List.getElem_cons_succ, List.getElem_cons_zero, Act.put, List.setIfInBounds_toArray, List.set_cons_zero, List.set_cons_succ]
            refine wpAnyH_take (i := 7) (v := ?_) rfl (by kernel_rfl) (by kernel_rfl) (by kernel_rfl) (fun _ _ _ h => h) (Or.inl ⟨rfl, ?_⟩) hHeld ?_
            rotate_left
            · (intro w hSw; (try dsimp only at hSw); go_simp; try (with_reducible rfl))
            simp only [List.getElem_toArray, List.getElem_cons_succ, List.getElem_cons_zero, Act.put, List.setIfInBounds_toArray, List.set_cons_zero, List.set_cons_succ]
            refine wpAnyH_take (i := 8) (v := ?_) rfl (by kernel_rfl) (by kernel_rfl) (by kernel_rfl) (fun _ _ _ h => h) (Or.inl ⟨rfl, ?_⟩) hHeld ?_
            rotate_left
            · (intro w hSw; (try dsimp only at hSw); go_simp; try (with_reducible rfl))
            simp only [List.getElem_toArray, List.getElem_cons_succ, List.getElem_cons_zero, Act.put, List.setIfInBounds_toArray, List.set_cons_zero, List.set_cons_succ]
            refine wpAnyH_take (i := 9) (v := ?_) rfl (by kernel_rfl) (by kernel_rfl) (by kernel_rfl) (fun _ _ _ h => h) (Or.inl ⟨rfl, ?_⟩) hHeld ?_
            rotate_left
            · (intro w hSw; (try dsimp only at hSw); go_simp; try (with_reducible rfl))
            simp only [List.getElem_toArray, List.getElem_cons_succ, List.getElem_cons_zero, Act.put, List.setIfInBounds_toArray, List.set_cons_zero, List.set_cons_succ]
            refine wpAnyH_take (i := 10) (v := ?_) rfl (by kernel_rfl) (by kernel_rfl) (by kernel_rfl) (fun _ _ _ h => h) (Or.inl ⟨rfl, ?_⟩) hHeld ?_
            rotate_left
            · (intro w hSw; (try dsimp only at hSw); go_simp; try (with_reducible rfl))
            simp only [List.getElem_toArray, List.getElem_cons_succ, List.getElem_cons_zero, Act.put, List.setIfInBounds_toArray, List.set_cons_zero, List.set_cons_succ]
            refine wpAnyH_take (i := 11) (v := ?_) rfl (by kernel_rfl) (by kernel_rfl) (by kernel_rfl) (fun _ _ _ h => h) (Or.inl ⟨rfl, ?_⟩) hHeld ?_
            rotate_left
            · (intro w hSw; (try dsimp only at hSw); go_simp; try (with_reducible rfl))
            simp only [List.getElem_toArray, List.getElem_cons_succ, List.getElem_cons_zero, Act.put, List.setIfInBounds_toArray, List.set_cons_zero, List.set_cons_succ]
            refine wpAnyH_take (i := 12) (v := ?_) rfl (by kernel_rfl) (by kernel_rfl) (by kernel_rfl) (fun _ _ _ h => h) (Or.inl ⟨rfl, ?_⟩) hHeld ?_
            rotate_left
            · (intro w hSw; (try dsimp only at hSw); go_simp; try (with_reducible rfl))
            simp only [List.getElem_toArray, List.getElem_cons_succ, List.getElem_cons_zero, Act.put, List.setIfInBounds_toArray, List.set_cons_zero, List.set_cons_succ]
            refine wpAnyH_take (i := 13) (v := ?_) rfl (by kernel_rfl) (by kernel_rfl) (by kernel_rfl) (fun _ _ _ h => h) (Or.inl ⟨rfl, ?_⟩) hHeld ?_
            rotate_left
            · (intro w hSw; (try dsimp only at hSw); go_simp; try (with_reducible rfl))
            simp only [List.getElem_toArray, List.getElem_cons_succ, List.getElem_cons_zero, Act.put, List.setIfInBounds_toArray, List.set_cons_zero, List.set_cons_succ]
            refine wpAnyH_take (i := 14) (v := ?_) rfl (by kernel_rfl) (by kernel_rfl) (by kernel_rfl) (fun _ _ _ h => h) (Or.inl ⟨rfl, ?_⟩) hHeld ?_
            rotate_left
            · (intro w hSw; (try dsimp only at hSw); go_simp; try (with_reducible rfl))
            simp only [List.getElem_toArray, List.getElem_cons_succ, List.getElem_cons_zero, Act.put, List.setIfInBounds_toArray, List.set_cons_zero, List.set_cons_succ]
            refine wpAnyH_ready (rs := [15]) (by kernel_rfl) (by simp) ?_
            refine AllReadyH.cons rfl (fun K hK => ?_) AllReadyH.nil
            simp only [List.getElem_toArray, List.getElem_cons_succ, List.getElem_cons_zero]
            go_simp
            go_wp2_with (go_at_call 31; refine AA.out.mono ?_; rintro e w3 ⟨rfl, hF3⟩)
            refine hK.out _ _ (by first | (exact KP.out _ hF3) | go_keep) (fun hHeld => ?_)
            clear hK K
            refine wpAnyH_done (by kernel_rfl) ?_ _
            clear hHeld
            have F3 := Lib.hid (F.out.trans (((Fr.refl [] wr).drew).trans hF3 (by simp)) (by simp))
            have HBB := Lib.hid (HNO.out (by first | exact rfl | trivial))
            clear hF3
            go_wp2_with fail
            go_roundg (3 - (c + 1))
            case measure => omega
            case rel => exact ⟨c + 1, K + 1, rfl, by omega, by have := HK.out; omega, by rw [HBB.out], rfl, F3.out⟩
          · skip
            refine wp_region_held_drew (S := (fun w' => w'.cell? ⟨b, 1, none⟩ = some (.slice (some ⟨g, 0, none⟩) L'.length cap) ∧ w'.cell? ⟨g, K * 3, none⟩ = some (.int .i64 x.id) ∧ w'.cell? ⟨g, K * 3 + 1, none⟩ = some (.int .i64 x.base) ∧ w'.cell? ⟨g, K * 3 + 2, none⟩ = some (.int .i64 x.since) ∧ w'.cell? ⟨g, t * 3, none⟩ = some (.int .i64 y.id) ∧ w'.cell? ⟨g, t * 3 + 1, none⟩ = some (.int .i64 y.base) ∧ w'.cell? ⟨g, t * 3 + 2, none⟩ = some (.int .i64 y.since))) (by kernel_rfl) (KP.out _ (Fr.refl _ _)) (fun hHeld => ?_)
            refine wpAnyH_take (i := 0) (v := ?_) rfl (by kernel_rfl) (by kernel_rfl) (by kernel_rfl) (fun _ _ _ h => h) (Or.inl ⟨rfl, ?_⟩) hHeld ?_
            rotate_left
            · (intro w hSw; (try dsimp only at hSw); go_simp; try (with_reducible rfl))
            simp only [List.getElem_toArray, List.getElem_cons_succ, List.getElem_cons_zero, Act.put, List.setIfInBounds_toArray, List.set_cons_zero, List.set_cons_succ]
            refine wpAnyH_take (i := 1) (v := ?_) rfl (by kernel_rfl) (by kernel_rfl) (by kernel_rfl) (fun _ _ _ h => h) (Or.inl ⟨rfl, ?_⟩) hHeld ?_
            rotate_left
            · (intro w hSw; (try dsimp only at hSw); go_simp; try (with_reducible rfl))
            simp only [List.getElem_toArray, List.getElem_cons_succ, List.getElem_cons_zero, Act.put, List.setIfInBounds_toArray, List.set_cons_zero, List.set_cons_succ]
            refine wpAnyH_take (i := 2) (v := ?_) rfl (by kernel_rfl) (by kernel_rfl) (by kernel_rfl) (fun _ _ _ h => h) (Or.inl ⟨rfl, ?_⟩) hHeld ?_
            rotate_left
            · (intro w hSw; (try dsimp only at hSw); go_simp; try (with_reducible rfl))
            simp only [List.getElem_toArray, List.getElem_cons_succ, List.getElem_cons_zero, Act.put, List.setIfInBounds_toArray, List.set_cons_zero, List.set_cons_succ]
            refine wpAnyH_take (i := 3) (v := ?_) rfl (by kernel_rfl) (by kernel_rfl) (by kernel_rfl) (fun _ _ _ h => h) (Or.inl ⟨rfl, ?_⟩) hHeld ?_
            rotate_left
            · (intro w hSw; (try dsimp only at hSw); go_simp; try (with_reducible rfl))
            simp only [List.getElem_toArray, List.getElem_cons_succ, List.getElem_cons_zero, Act.put, List.setIfInBounds_toArray, List.set_cons_zero, List.set_cons_succ]
            refine wpAnyH_take (i := 4) (v := ?_) rfl (by kernel_rfl) (by kernel_rfl) (by kernel_rfl) (fun _ _ _ h => h) (Or.inl ⟨rfl, ?_⟩) hHeld ?_
            rotate_left
            · (intro w hSw; (try dsimp only at hSw); go_simp; try (with_reducible rfl))
            simp only [List.getElem_toArray, List.getElem_cons_succ, List.getElem_cons_zero, Act.put, List.setIfInBounds_toArray, List.set_cons_zero, List.set_cons_succ]
            refine wpAnyH_take (i := 5) (v := ?_) rfl (by kernel_rfl) (by kernel_rfl) (by kernel_rfl) (fun _ _ _ h => h) (Or.inl ⟨rfl, ?_⟩) hHeld ?_
            rotate_left
            · (intro w hSw; (try dsimp only at hSw); go_simp; try (with_reducible rfl))
            simp only [List.getElem_toArray, List.getElem_cons_succ, List.getElem_cons_zero, Act.put, List.setIfInBounds_toArray, List.set_cons_zero, List.set_cons_succ]
            refine wpAnyH_take (i := 6) (v := ?_) rfl (by kernel_rfl) (by kernel_rfl) (by kernel_rfl) (fun _ _ _ h => h) (Or.inl ⟨rfl, ?_⟩) hHeld ?_
            rotate_left
            · (intro w hSw; (try dsimp only at hSw); go_simp; try (with_reducible rfl))
            simp only [List.getElem_toArray, List.getElem_cons_succ, List.getElem_cons_zero, Act.put, List.setIfInBounds_toArray, List.set_cons_zero, List.set_cons_succ]
            refine wpAnyH_take (i := 7) (v := ?_) rfl (by kernel_rfl) (by kernel_rfl) (by kernel_rfl) (fun _ _ _ h => h) (Or.inl ⟨rfl, ?_⟩) hHeld ?_
            rotate_left
            · (intro w hSw; (try dsimp only at hSw); go_simp; try (with_reducible rfl))
            simp only [List.getElem_toArray, List.getElem_cons_succ, List.getElem_cons_zero, Act.put, List.setIfInBounds_toArray, List.set_cons_zero, List.set_cons_succ]
            refine wpAnyH_take (i := 8) (v := ?_) rfl (by kernel_rfl) (by kernel_rfl) (by kernel_rfl) (fun _ _ _ h => h) (Or.inl ⟨rfl, ?_⟩) hHeld ?_
            rotate_left
            · (intro w hSw; (try dsimp only at hSw); go_simp; try (with_reducible rfl))
            simp only [List.getElem_toArray, List.getElem_cons_succ, List.getElem_cons_zero, Act.put, List.setIfInBounds_toArray, List.set_cons_zero, List.set_cons_succ]
            refine wpAnyH_take (i := 9) (v := ?_) rfl (by kernel_rfl) (by kernel_rfl) (by kernel_rfl) (fun _ _ _ h => h) (Or.inl ⟨rfl, ?_⟩) hHeld ?_
            rotate_left
            · (intro w hSw; (try dsimp only at hSw); go_simp; try (with_reducible rfl))
            simp only [List.getElem_toArray, List.getElem_cons_succ, List.getElem_cons_zero, Act.put, List.setIfInBounds_toArray, List.set_cons_zero, List.set_cons_succ]
            refine wpAnyH_take (i := 10) (v := ?_) rfl (by kernel_rfl) (by kernel_rfl) (by kernel_rfl) (fun _ _ _ h => h) (Or.inl ⟨rfl, ?_⟩) hHeld ?_
            rotate_left
            · (intro w hSw; (try dsimp only at hSw); go_simp; try (with_reducible rfl))
            simp only [List.getElem_toArray, List.getElem_cons_succ, List.getElem_cons_zero, Act.put, List.setIfInBounds_toArray, List.set_cons_zero, List.set_cons_succ]
            refine wpAnyH_take (i := 11) (v := ?_) rfl (by kernel_rfl) (by kernel_rfl) (by kernel_rfl) (fun _ _ _ h => h) (Or.inl ⟨rfl, ?_⟩) hHeld ?_
            rotate_left
            · (intro w hSw; (try dsimp only at hSw); go_simp; try (with_reducible rfl))
            simp only [List.getElem_toArray, List.getElem_cons_succ, List.getElem_cons_zero, Act.put, List.setIfInBounds_toArray, List.set_cons_zero, List.set_cons_succ]
            refine wpAnyH_take (i := 12) (v := ?_) rfl (by kernel_rfl) (by kernel_rfl) (by kernel_rfl) (fun _ _ _ h => h) (Or.inl ⟨rfl, ?_⟩) hHeld ?_
            rotate_left
            · (intro w hSw; (try dsimp only at hSw); go_simp; try (with_reducible rfl))
            simp only [List.getElem_toArray, List.getElem_cons_succ, List.getElem_cons_zero, Act.put, List.setIfInBounds_toArray, List.set_cons_zero, List.set_cons_succ]
            refine wpAnyH_take (i := 13) (v := ?_) rfl (by kernel_rfl) (by kernel_rfl) (by kernel_rfl) (fun _ _ _ h => h) (Or.inl ⟨rfl, ?_⟩) hHeld ?_
            rotate_left
            · (intro w hSw; (try dsimp only at hSw); go_simp; try (with_reducible rfl))
            simp only [List.getElem_toArray, List.getElem_cons_succ, List.getElem_cons_zero, Act.put, List.setIfInBounds_toArray, List.set_cons_zero, List.set_cons_succ]
            refine wpAnyH_take (i := 14) (v := ?_) rfl (by kernel_rfl) (by kernel_rfl) (by kernel_rfl) (fun _ _ _ h => h) (Or.inl ⟨rfl, ?_⟩) hHeld ?_
            rotate_left
            · (intro w hSw; (try dsimp only at hSw); go_simp; try (with_reducible rfl))
            simp only [List.getElem_toArray, List.getElem_cons_succ, List.getElem_cons_zero, Act.put, List.setIfInBounds_toArray, List.set_cons_zero, List.set_cons_succ]
            refine wpAnyH_ready (rs := [15]) (by kernel_rfl) (by simp) ?_
            refine AllReadyH.cons rfl (fun K hK => ?_) AllReadyH.nil
            simp only [List.getElem_toArray, List.getElem_cons_succ, List.getElem_cons_zero]
            go_simp
            go_wp2_with (go_at_call 31; refine AA.out.mono ?_; rintro e w3 ⟨rfl, hF3⟩)
            refine hK.out _ _ (by first | (exact KP.out _ hF3) | go_keep) (fun hHeld => ?_)
            clear hK K
            refine wpAnyH_done (by kernel_rfl) ?_ _
            clear hHeld
            have F3 := Lib.hid (F.out.trans (((Fr.refl [] wr).drew).trans hF3 (by simp)) (by simp))
            have HBB := Lib.hid (HYES.out (by first | exact rfl | trivial))
            clear hF3
            go_wp2_with fail
            go_roundg (3 - (c + 1))
            case measure => omega
            case rel => exact ⟨c + 1, K + 1, rfl, by omega, by have := HK.out; omega, by rw [HBB.out], rfl, F3.out⟩
        · skip
          have dl : decide (K < L'.length) = false := decide_eq_false hkl
          have hbest : bestTo step L' q 2 = bestTo step L' q c := by have h := bestTo_out (s := step) (L := L') (i := q) (c := c) (by omega) (2 - c); rw [show c + (2 - c) = 2 by omega] at h; exact h
          have hstop := @downL_stop step L' q
          have hgo := @downL_go step L' q hql
          have hge := bestTo_ge step L' q c
          rw [hbest] at hstop hgo
          generalize bestTo step L' q c = t at hbl hstop hgo hge ⊢
          have HW := Lib.hid (HQ.out.fr F.out)
          have FW := Lib.hid (FQ.out.trans F.out (by simp))
          have HKQ := Lib.hid hK
          clear hbest hK
          by_cases hti : t = q
          · have HUP := Lib.hid ((hstop hti).symm.trans REL.out)
            have dn : ((t : Int) != (q : Int)) = false := by rw [hti]; simp
            clear hstop hgo
            go_wp2_with fail
            simp only [Exit.jump]
            go_end0
            exact ⟨rfl, ⟨n', by omega, by rw [← HUP.out]; exact HW.out⟩, FW.out⟩
          · have HUP := Lib.hid ((hgo hti).symm.trans REL.out)
            have dn : ((t : Int) != (q : Int)) = true := by rw [bne_iff_ne]; omega
            have C4 := swap_any E hE hEg b m base n' step L' _ q t wr HW.out hql hbl GQ.out.few (by omega) GQ.out.ids GQ.out.nd
            have C4 := Lib.hid C4
            clear hstop hgo
            go_wp2_with fail
            refine C4.out.mono ?_
            rintro e w4 ⟨rfl, hS, hF4⟩
            go_wp2_with fail
            go_step3
            have hll : (swapL L' q t).length = L.length := by first | exact (swapL_length _ _ _).trans HLL.out | exact swapL_length _ _ _
            refine ⟨rfl, ⟨t, n' + 2, swapL L' q t, _, _, _, _, _, _, _, _, _, _, _, _, _, _, _, _, _, _, _, _, _, _, _, _, _, _, _, _, _, _, _, _, _, _, _, _, _, _, _, _, _, _, _, _, _, _, _, rfl, by omega, by rw [swapL_length]; exact hbl, hS, by have h := swapL_length L' q t; omega, GQ.out.swap hql hbl, hll, HUP.out, FW.out.trans hF4 (fun y hy => .inl hy)⟩, ?_⟩
            have h := swapL_length L' q t
            simp [intOf]
            omega
      · skip
        have dk : decide ((K : Int) ≤ 2 * (q : Int) + 2) = false := decide_eq_false (by omega)
        have hbest : bestTo step L' q 2 = bestTo step L' q c := by rw [show c = 2 by omega]
        have hstop := @downL_stop step L' q
        have hgo := @downL_go step L' q hql
        have hge := bestTo_ge step L' q c
        rw [hbest] at hstop hgo
        generalize bestTo step L' q c = t at hbl hstop hgo hge ⊢
        have HW := Lib.hid (HQ.out.fr F.out)
        have FW := Lib.hid (FQ.out.trans F.out (by simp))
        have HKQ := Lib.hid hK
        clear hbest hK
        by_cases hti : t = q
        · have HUP := Lib.hid ((hstop hti).symm.trans REL.out)
          have dn : ((t : Int) != (q : Int)) = false := by rw [hti]; simp
          clear hstop hgo
          go_wp2_with fail
          simp only [Exit.jump]
          go_end0
          exact ⟨rfl, ⟨n', by omega, by rw [← HUP.out]; exact HW.out⟩, FW.out⟩
        · have HUP := Lib.hid ((hgo hti).symm.trans REL.out)
          have dn : ((t : Int) != (q : Int)) = true := by rw [bne_iff_ne]; omega
          have C4 := swap_any E hE hEg b m base n' step L' _ q t wr HW.out hql hbl GQ.out.few (by omega) GQ.out.ids GQ.out.nd
          have C4 := Lib.hid C4
          clear hstop hgo
          go_wp2_with fail
          refine C4.out.mono ?_
          rintro e w4 ⟨rfl, hS, hF4⟩
          go_wp2_with fail
          go_step3
          have hll : (swapL L' q t).length = L.length := by first | exact (swapL_length _ _ _).trans HLL.out | exact swapL_length _ _ _
          refine ⟨rfl, ⟨t, n' + 2, swapL L' q t, _, _, _, _, _, _, _, _, _, _, _, _, _, _, _, _, _, _, _, _, _, _, _, _, _, _, _, _, _, _, _, _, _, _, _, _, _, _, _, _, _, _, _, _, _, _, _, rfl, by omega, by rw [swapL_length]; exact hbl, hS, by have h := swapL_length L' q t; omega, GQ.out.swap hql hbl, hll, HUP.out, FW.out.trans hF4 (fun y hy => .inl hy)⟩, ?_⟩
          have h := swapL_length L' q t
          simp [intOf]
          omega
end Go.Proofs.Ytpjmmhpkiepbmaa