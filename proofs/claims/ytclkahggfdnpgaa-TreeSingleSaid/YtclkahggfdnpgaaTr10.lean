/- The tree: one instance is taken out of the row. -/
import Derived.Test.YtclkahggfdnpgaaTr9
set_option linter.unusedVariables false
set_option linter.unusedSimpArgs false
namespace Go.Proofs.Ytclkahggfdnpgaa
open Go.RowKit
theorem info130 : (Try.prog.info? 130).map (·.size) = some 5 := by kernel_rfl
theorem eql_ins {w : World} {y x : Nat} {cy cx : List Value} (hy : Row w y cy 130) (hx : Row w x cx 130) : (binOp .eql 127 (.pointer (some ⟨y, 0, none⟩)) (.pointer (some ⟨x, 0, none⟩))).run Try.prog w = .ok (.bool (decide (y = x))) w := by
  obtain ⟨i, hi, hs⟩ := Option.map_eq_some_iff.1 info130
  by_cases h : y = x
  · subst h
    rw [decide_eq_true rfl]
    exact run_eql_ptr_same w _ Try.underlying127 hi
  · rw [decide_eq_false h]
    exact run_eql_ptr_other w Try.underlying127 hi (by rw [hs]; decide) (by intro e; cases e; exact h rfl) hy hx
theorem endf_any (bx xb yb : Nat) (cy cx : List Value) (w : World) (hb : w.cell? ⟨bx, 0, none⟩ = some (.pointer (some ⟨xb, 0, none⟩))) (hy : Row w yb cy 130) (hx : Row w xb cx 130) :
    Calls Try.prog 82 #[.pointer (some ⟨yb, 0, none⟩), .pointer (some ⟨bx, 0, none⟩)] w fun e w' => e = .returned (.bool (decide (yb = xb))) ∧ Fr [] w w' := by
  have h1 := eql_ins hy hx
  clear hy hx
  generalize decide (yb = xb) = q at h1 ⊢
  go_enter Try.func82, Try.ntmps82
  go_wp2_with fail
  go_ret
  exact ⟨rfl, Fr.refl _ _⟩
/-- Pointers in a row. -/
structure PtrsAt (w : World) (g n : Nat) (sh : Nat → InsD) (C : List Value) : Prop where
  row : Row w g C 127
  len : n ≤ C.length
  at_ : ∀ m, m < n → C[m]? = some (sh m).ptr
  ins : ∀ m, m < n → Row w (sh m).b (sh m).cells 130
  sep : ∀ m, m < n → (sh m).b ≠ g
theorem index_del (g n c j bx xb : Nat) (sh : Nat → InsD) (C : List Value) (w : World) (h : PtrsAt w g n sh C) (hb : w.cell? ⟨bx, 0, none⟩ = some (.pointer (some ⟨xb, 0, none⟩))) (hj : j < n) (hje : (sh j).b = xb) (hne : ∀ m, m < n → m ≠ j → (sh m).b ≠ xb) (hn : n ≤ 1000) :
    Calls Try.prog 87 #[.slice (some ⟨g, 0, none⟩) n c, .func (.func 82) #[] #[.pointer (some ⟨bx, 0, none⟩)]] w fun e w' => e = .returned (.int .i64 j) ∧ Fr [] w w' := by
  have HH := Lib.hid h
  have HB := Lib.hid hb
  have HJE := Lib.hid hje
  have HNE := Lib.hid hne
  clear h hb hje hne
  go_enter Try.func87, Try.ntmps87
  go_wp2_with fail
  go_loopg [8] n (fun k i wr => ∃ q : Nat, k = n - q ∧ q ≤ j ∧ i = .int .i64 q ∧ Fr [] w wr)
  case atStart => exact ⟨0, rfl, by omega, rfl, Fr.refl _ _⟩
  case round =>
    obtain ⟨q, rfl, hq, rfl, hF⟩ := hrel
    have F := Lib.hid hF
    clear hF
    have hqn : q < n := by omega
    have hd : decide (q < n) = true := decide_eq_true hqn
    have hc : wr.cell? ⟨g, q, none⟩ = some (sh q).ptr := cell_fr' ((HH.out.row.cell q).trans (HH.out.at_ q hqn)) F.out
    have hb2 : wr.cell? ⟨bx, 0, none⟩ = some (.pointer (some ⟨xb, 0, none⟩)) := cell_fr' HB.out F.out
    have C1 := endf_any bx xb (sh q).b _ _ wr hb2 ((HH.out.ins q hqn).fr F.out (by simp)) (by have := (HH.out.ins j hj).fr F.out (by simp); rw [HJE.out] at this; exact this)
    obtain ⟨x, hx⟩ : ∃ x, sh q = x := ⟨_, rfl⟩
    rw [hx] at hc C1
    unfold InsD.ptr at hc
    have HX := Lib.hid hx
    clear hb2 hx
    go_wp2_with fail
    refine C1.mono ?_
    rintro e w2 ⟨rfl, hF2⟩
    have F2 := Lib.hid (F.out.trans hF2 (by simp))
    clear hF2 C1
    by_cases hx : x.b = xb
    · rw [decide_eq_true hx]
      have HQ := Lib.hid (show q = j by
        rcases Nat.lt_or_ge q j with hlt | hge
        · exact absurd (by rw [HX.out]; exact hx) (HNE.out q hqn (by omega))
        · omega)
      clear hx
      go_wp2_with fail
      go_ret
      exact ⟨by rw [← HQ.out]; rfl, F2.out⟩
    · rw [decide_eq_false hx]
      have HQ := Lib.hid (show q + 1 ≤ j by
        rcases Nat.lt_or_ge q j with hlt | hge
        · omega
        · have e : q = j := by omega
          exact absurd (by rw [← HX.out, e]; exact HJE.out) hx)
      clear hx
      go_wp2_with fail
      go_roundg (n - (q + 1))
      case measure => omega
      case rel => exact ⟨q + 1, rfl, HQ.out, rfl, F2.out⟩
/-- Behind the move of those up to k. -/
def shiftI (sh : Nat → InsD) (j k m : Nat) : InsD := if j ≤ m ∧ m + 1 < k then sh (m + 1) else sh m
theorem PtrsAt.shift {w : World} {g n j k : Nat} {sh : Nat → InsD} {C : List Value} (hk : k ≤ n) (hi : ∀ m, m < n → Row w (sh m).b (sh m).cells 130) (hs : ∀ m, m < n → (sh m).b ≠ g) (hr : Row w g C 127) (hl : n ≤ C.length) (ha : ∀ m, m < n → C[m]? = some (shiftI sh j k m).ptr) : PtrsAt w g n (shiftI sh j k) C :=
  ⟨hr, hl, ha, fun m hm => by unfold shiftI; split; exact hi _ (by omega); exact hi _ hm, fun m hm => by unfold shiftI; split; exact hs _ (by omega); exact hs _ hm⟩
def DelP (g n c j : Nat) (sh : Nat → InsD) (C : List Value) (w : World) (e : Ending) (w' : World) : Prop :=
  e = .returned (.slice (some ⟨g, 0, none⟩) (n - 1) c) ∧ ∃ C', C'.length = C.length ∧ Row w' g C' 127 ∧ (∀ m, m < n - 1 → C'[m]? = some (shiftI sh j n m).ptr) ∧ Fr [g] w w'
theorem zero127 (w : World) : (zeroValue 127).run Try.prog w = .ok (.pointer none) w := by kernel_rfl
set_option maxHeartbeats 1000000 in
theorem delete_any (g n c j bx xb : Nat) (sh : Nat → InsD) (C : List Value) (w : World) (h : PtrsAt w g n sh C) (hb : w.cell? ⟨bx, 0, none⟩ = some (.pointer (some ⟨xb, 0, none⟩))) (hbg : bx ≠ g) (hj : j < n) (hje : (sh j).b = xb) (hne : ∀ m, m < n → m ≠ j → (sh m).b ≠ xb) (hn : n ≤ 1000) (hnc : n ≤ c) :
    Calls Try.prog 81 #[.slice (some ⟨g, 0, none⟩) n c, .func (.func 82) #[] #[.pointer (some ⟨bx, 0, none⟩)]] w (DelP g n c j sh C w) := by
  have C1 := index_del g n c j bx xb sh C w h hb hj hje hne hn
  have HH := Lib.hid h
  have HB := Lib.hid hb
  have HJE := Lib.hid hje
  have HNE := Lib.hid hne
  have dj : ((j : Int) == -1) = false := by rw [beq_eq_false_iff_ne]; omega
  clear h hb hje hne
  go_enter Try.func81, Try.ntmps81
  go_wp2_with fail
  refine C1.mono ?_
  rintro e w1 ⟨rfl, hF⟩
  have F1 := Lib.hid hF
  clear hF C1
  go_wp2_with fail
  go_loopg [5, 6] (n - (j + 1)) (fun q iv kv wr => ∃ (k p : Nat) (C' : List Value), q = n - k ∧ p + 1 = k ∧ j ≤ p ∧ k ≤ n ∧ iv = .int .i64 (p : Int) ∧ kv = .int .i64 ((p : Int) + 1) ∧ C'.length = C.length ∧ PtrsAt wr g n (shiftI sh j k) C' ∧ Fr [g] w wr)
  case atStart =>
    refine ⟨j + 1, j, C, rfl, rfl, by omega, by omega, rfl, rfl, rfl, .shift (by omega) (fun m hm => (HH.out.ins m hm).fr F1.out (by simp)) HH.out.sep (HH.out.row.fr F1.out (by simp)) HH.out.len (fun m hm => ?_), F1.out.mono (by simp)⟩
    rw [HH.out.at_ m hm]
    unfold shiftI
    rw [if_neg (by omega)]
  case round =>
    obtain ⟨k, p, C', rfl, hpk, hjp, hkn, rfl, rfl, hCl, hP, hF⟩ := hrel
    have P := Lib.hid hP
    have F := Lib.hid hF
    have CL := Lib.hid hCl
    clear hP hF hCl
    by_cases hlt : p + 1 < n
    · have hd : decide ((p : Int) + 1 < n) = true := decide_eq_true (by omega)
      obtain rfl : k = p + 1 := by omega
      have hsh : shiftI sh j (p + 1) (p + 1) = sh (p + 1) := by unfold shiftI; rw [if_neg (by omega)]
      have hc : wr.cell? ⟨g, p + 1, none⟩ = some (sh (p + 1)).ptr := (P.out.row.cell (p + 1)).trans (by rw [P.out.at_ (p + 1) hlt, hsh])
      have hcp : wr.cell? ⟨g, p, none⟩ = some (shiftI sh j (p + 1) p).ptr := (P.out.row.cell p).trans (P.out.at_ p (by omega))
      have hb2 : wr.cell? ⟨bx, 0, none⟩ = some (.pointer (some ⟨xb, 0, none⟩)) := by
        rw [World.cell?_of_block (F.out.block bx (World.block_lt_of_cell? w _ HB.out) (by simp; exact hbg))]; exact HB.out
      have C2 := endf_any bx xb (sh (p + 1)).b _ _ wr hb2 ((HH.out.ins (p + 1) hlt).fr F.out (by simp; exact HH.out.sep _ hlt)) (by have := (HH.out.ins j hj).fr F.out (by simp; exact HH.out.sep j hj); rw [HJE.out] at this; exact this)
      rw [decide_eq_false (HNE.out (p + 1) hlt (by omega))] at C2
      unfold InsD.ptr at hc hcp
      have hidx : ((p : Int) + 1).toNat = p + 1 := by omega
      clear hsh hb2
      go_wp2_with fail
      refine C2.mono ?_
      rintro e w2 ⟨rfl, hF2⟩
      have F2 := Lib.hid (F.out.trans hF2 (by simp))
      have hcp2 : w2.cell? ⟨g, p, none⟩ = some (.pointer (some ⟨(shiftI sh j (p + 1) p).b, 0, none⟩)) := cell_fr' hcp hF2
      have hR2 := P.out.row.fr hF2 (by simp)
      have hfz : w2.frozen? ⟨g, p, none⟩ = false := hR2.frozen p
      have R2 := Lib.hid hR2
      clear hF2 C2 hc hcp hR2
      go_wp2_with fail
      go_roundg (n - (p + 2))
      case measure => omega
      case rel =>
        refine ⟨p + 2, p + 1, C'.set p (.pointer (some ⟨(sh (p + 1)).b, 0, none⟩)), rfl, rfl, by omega, by omega, by simp, by simp, by rw [List.length_set]; exact CL.out, .shift (by omega) (fun m hm => ?_) HH.out.sep ((R2.out.setCell p _)) (by rw [List.length_set]; exact P.out.len) (fun m hm => ?_), F2.out.setCell (.inl (by simp)) _⟩
        · exact ((HH.out.ins m hm).fr F2.out (by simp; exact HH.out.sep m hm)).setCell_other _ _ (HH.out.sep m hm)
        · by_cases hmp : m = p
          · subst hmp
            rw [List.getElem?_set_self (by have := P.out.len; omega)]
            unfold shiftI
            rw [if_pos (by omega)]
            rfl
          · rw [List.getElem?_set_ne (Ne.symm hmp), P.out.at_ m hm]
            unfold shiftI
            by_cases hc1 : j ≤ m ∧ m + 1 < p + 1
            · rw [if_pos hc1, if_pos (by omega)]
            · rw [if_neg hc1, if_neg (by omega)]
    · have hd : decide ((p : Int) + 1 < n) = false := decide_eq_false (by omega)
      have hpn : p = n - 1 := by omega
      have hn0 : n - 1 + 1 = n := by omega
      have hkn2 : k = n := by omega
      subst hkn2
      have hR := P.out.row
      have hcl : ∀ ty, (Builtin.clear_ #[118] ty #[.slice (some ⟨g, p, none⟩) (k - p) (c - p)]).run Try.prog wr = .ok (.tuple #[]) (wr.setCells g p (List.replicate (k - p) (.pointer none))) := fun ty =>
        Lib.run_clear_slice wr 118 127 ty _ Try.underlying118 zero127 rfl rfl g p _ _ (by omega) (fun m hm => by rw [hR.cell, P.out.at_ _ (by omega)]; rfl) (fun m hm => hR.frozen _)
      have e1 : k - p = 1 := by omega
      have hp1 : p ≤ k := by omega
      have hpc : p ≤ c := by omega
      have E1 := Lib.hid e1
      have PN := Lib.hid hpn
      have hcl2 : ∀ ty, (Builtin.clear_ #[118] ty #[.slice (if c = p then some ⟨g, 0, none⟩ else some ⟨g, p, none⟩) (k - p) (c - p)]).run Try.prog wr = .ok (.tuple #[]) (wr.setCells g p (List.replicate (k - p) (.pointer none))) := fun ty => by rw [if_neg (by omega)]; exact hcl ty
      have CLR := Lib.hid hcl2
      clear hR hcl hcl2 e1 hpn hn0 hpk hkn
      go_wp2_with (simp only [CLR.out])
      all_goals
        go_ret
        have hw : wr.setCells g p (List.replicate (k - p) (.pointer none)) = wr.setCell ⟨g, p, none⟩ (.pointer none) := by rw [E1.out]; rfl
        rw [hw]
        refine ⟨?_, C'.set p (.pointer none), by rw [List.length_set]; exact CL.out, P.out.row.setCell p _, fun m hm => ?_, F.out.setCell (.inl (by simp)) _⟩
        · simp [PN.out]
        · rw [List.getElem?_set_ne (by have := PN.out; omega)]
          exact P.out.at_ m (by omega)
end Go.Proofs.Ytclkahggfdnpgaa
