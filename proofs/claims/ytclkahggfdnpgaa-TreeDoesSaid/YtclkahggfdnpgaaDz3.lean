/- Parts of the proof: Mk8, Mk9, Mk10, Mk11, Mk12, Mk13. (Merged by pack.py.) -/
import Derived.Test.YtclkahggfdnpgaaDz2
import Derived.Deep.RegionHeldLaw
set_option linter.unusedVariables false
set_option linter.unusedSimpArgs false
namespace Go.Proofs.Ytclkahggfdnpgaa
open Go.RowKit
theorem do_fit (f : FlatD) (a : Option Addr) (n c : Nat) (M : List MarkD) (i : Int) (w : World) (hf : FlatAt w f) (h : MarksAt w a n M) (hn : n ≤ 100000) (hfit : fitsB f.en M = false) :
    Calls Try.prog 29 #[f.val, .slice a n c, .int .i64 i] w fun e w' => e = .returned (.tuple #[.slice none 0 0, .int .i64 1]) ∧ Fr [] w w' := by
  have hr := (Fr.refl [] w).alloc (.cells #[.slice f.ea f.en f.ec, .slice f.ta f.tn f.tc] 25)
  have C1 := fits_any f a n c M _ (h.fr hr) hn
  have HR := Lib.hid hr
  rw [hfit] at C1
  clear h hr hfit hf
  unfold FlatD.val at C1 ⊢
  go_enter Try.func29, Try.ntmps29
  go_wp2_with fail
  refine C1.mono ?_
  rintro e w2 ⟨rfl, hF⟩
  go_wp2_with fail
  go_ret2
  exact ⟨rfl, HR.out.trans hF (by simp)⟩
theorem do_range (f : FlatD) (a : Option Addr) (n c : Nat) (M : List MarkD) (i : Int) (w : World) (hf : FlatAt w f) (h : MarksAt w a n M) (hn : n ≤ 100000) (hfit : fitsB f.en M = true) (hi : i < 0 ∨ n ≤ i) :
    Calls Try.prog 29 #[f.val, .slice a n c, .int .i64 i] w fun e w' => e = .returned (.tuple #[.slice none 0 0, .int .i64 3]) ∧ Fr [] w w' := by
  have hr := (Fr.refl [] w).alloc (.cells #[.slice f.ea f.en f.ec, .slice f.ta f.tn f.tc] 25)
  have C1 := fits_any f a n c M _ (h.fr hr) hn
  have HR := Lib.hid hr
  rw [hfit] at C1
  clear h hr hfit hf
  unfold FlatD.val at C1 ⊢
  by_cases h0 : i < 0
  · have d1 : decide (i < 0) = true := by simpa using h0
    go_enter Try.func29, Try.ntmps29
    go_wp2_with fail
    refine C1.mono ?_
    rintro e w2 ⟨rfl, hF⟩
    go_wp2_with fail
    go_ret2
    exact ⟨rfl, HR.out.trans hF (by simp)⟩
  · have d1 : decide (i < 0) = false := by simpa using h0
    have d2 : decide (i ≥ n) = true := by rw [decide_eq_true_iff]; omega
    clear hi
    go_enter Try.func29, Try.ntmps29
    go_wp2_with fail
    refine C1.mono ?_
    rintro e w2 ⟨rfl, hF⟩
    go_wp2_with fail
    go_ret2
    exact ⟨rfl, HR.out.trans hF (by simp)⟩
theorem do_off (f : FlatD) (a : Option Addr) (n c : Nat) (M : List MarkD) (k : Nat) (w : World) (hf : FlatAt w f) (h : MarksAt w a n M) (hn : n ≤ 100000) (hfit : fitsB f.en M = true) (hk : k < n) (he : enabB f M k = false) :
    Calls Try.prog 29 #[f.val, .slice a n c, .int .i64 k] w fun e w' => e = .returned (.tuple #[.slice none 0 0, .int .i64 11]) ∧ Fr [] w w' := by
  have hr := (Fr.refl [] w).alloc (.cells #[.slice f.ea f.en f.ec, .slice f.ta f.tn f.tc] 25)
  have C1 := fits_any f a n c M _ (h.fr hr) hn
  have HR := Lib.hid hr
  have C2 := Lib.hid (fun w' (g : Fr [] (w.alloc (.cells #[.slice f.ea f.en f.ec, .slice f.ta f.tn f.tc] 25)) w') => enab_any f a n c M k w' ((hf.fr hr).fr g) ((h.fr hr).fr g) hn)
  rw [hfit] at C1
  rw [he] at C2
  have d1 : decide ((k : Int) < 0) = false := by rw [decide_eq_false_iff_not]; omega
  have d2 : decide ((k : Int) ≥ n) = false := by rw [decide_eq_false_iff_not]; omega
  have d3 : decide (k ≥ n) = false := by rw [decide_eq_false_iff_not]; omega
  clear h hr hfit hf he
  unfold FlatD.val at C1 C2 ⊢
  go_enter Try.func29, Try.ntmps29
  go_wp2_with fail
  refine C1.mono ?_
  rintro e w2 ⟨rfl, hF⟩
  have f0 : w2.cell? ⟨w.heap.size, 0, none⟩ = some (.slice f.ea f.en f.ec) := cell_fr ((Row.new w [.slice f.ea f.en f.ec, .slice f.ta f.tn f.tc] 25).cell 0) hF
  have f1 : w2.cell? ⟨w.heap.size, 1, none⟩ = some (.slice f.ta f.tn f.tc) := cell_fr ((Row.new w [.slice f.ea f.en f.ec, .slice f.ta f.tn f.tc] 25).cell 1) hF
  have C3 := C2.out w2 hF
  have F2 := Lib.hid (HR.out.trans hF (by simp))
  clear hF
  go_wp2_with fail
  refine C3.mono ?_
  rintro e w3 ⟨rfl, hF⟩
  go_wp2_with fail
  go_ret2
  exact ⟨rfl, F2.out.trans hF (by simp)⟩
def clampD (n : Int) : Int := if n < 0 then 0 else if n < 1048576 then n else 1048576
def applyK (kind : Int) (t : TieD) (x : MarkD) : MarkD :=
  if kind = 2 then (if x.due < 0 ∨ t.time < x.due then { x with due := clampD t.time } else x) else { x with inn := decide (kind = 3) }
def stepK (kind i : Int) (k : Nat) (out : List MarkD) (t : TieD) : List MarkD :=
  if t.kind = kind ∧ t.src = i ∧ t.between k = true then out.set t.dst.toNat (applyK kind t (out.getD t.dst.toNat default)) else out
def doK (kind i : Int) (k : Nat) (T : List TieD) (out : List MarkD) : List MarkD := T.foldl (stepK kind i k) out
def doneM (M : List MarkD) (i : Nat) : List MarkD := M.set i { (M.getD i default) with age := 0, due := -1 }
def doM (f : FlatD) (M : List MarkD) (i : Nat) : List MarkD := doK 3 i f.en f.T (doK 4 i f.en f.T (doK 2 i f.en f.T (doneM M i)))
theorem stepK_length (kind i : Int) (k : Nat) (out : List MarkD) (t : TieD) : (stepK kind i k out t).length = out.length := by
  unfold stepK
  split
  · rw [List.length_set]
  · rfl
theorem doK_length (kind i : Int) (k : Nat) (T : List TieD) : ∀ out : List MarkD, (doK kind i k T out).length = out.length := by
  induction T with
  | nil => intro out; rfl
  | cons t T ih => intro out; show (doK kind i k T (stepK kind i k out t)).length = _; rw [ih, stepK_length]
theorem doK_succ (kind i : Int) (k : Nat) (T : List TieD) (j : Nat) (h : j < T.length) (out : List MarkD) : doK kind i k (T.take (j + 1)) out = stepK kind i k (doK kind i k (T.take j) out) (T.getD j default) := by
  unfold doK
  rw [take_succD T j h, List.foldl_append]
  rfl
end Go.Proofs.Ytclkahggfdnpgaa
set_option linter.unusedVariables false
set_option linter.unusedSimpArgs false
namespace Go.Proofs.Ytclkahggfdnpgaa
open Go.RowKit
theorem RowsAt.frS {w w' : World} {a : Option Addr} {n k g : Nat} {C : Nat → List Value} (h : RowsAt w a n k C) (f : Fr [g] w w') (hg : w.heap.size ≤ g) : RowsAt w' a n k C := by
  refine ⟨fun h0 => ?_⟩
  obtain ⟨b, o, rfl, hb, hc⟩ := h.at_ h0
  refine ⟨b, o, rfl, Nat.lt_of_lt_of_le hb f.size, fun i hi j v hj => ?_⟩
  rw [World.cell?_of_block (f.block b hb (by simp; omega))]
  exact hc i hi j v hj
theorem cell_frS {w w' : World} {p : Addr} {v : Value} {g : Nat} (h : w.cell? p = some v) (f : Fr [g] w w') (hg : p.block ≠ g) : w'.cell? p = some v := by
  rw [World.cell?_of_block (f.block p.block (World.block_lt_of_cell? w p h) (by simpa using hg))]; exact h
theorem rowD {wr : World} {g j : Nat} {N : List MarkD} {x y : MarkD} {D : Int} (hR : Row wr g (mcells N) 52) (h : j < N.length) (hx : N.getD j default = x) (hy : { x with due := D } = y) :
    Row (wr.setCell ⟨g, j * 3 + 2, none⟩ (.int .i64 D)) g (mcells (N.set j y)) 52 := by
  have h1 := (hR.setCell (j * 3 + 2) (.int .i64 D))
  rw [mset_d N j x h hx, hy] at h1
  exact h1
theorem rowI {wr : World} {g j : Nat} {N : List MarkD} {x y : MarkD} {b : Bool} (hR : Row wr g (mcells N) 52) (h : j < N.length) (hx : N.getD j default = x) (hy : { x with inn := b } = y) :
    Row (wr.setCell ⟨g, j * 3, none⟩ (.bool b)) g (mcells (N.set j y)) 52 := by
  have h1 := (hR.setCell (j * 3) (.bool b))
  rw [mset_i N j x h hx, hy] at h1
  exact h1
theorem rowN {wr : World} {g j : Nat} {N : List MarkD} {x y : MarkD} (hR : Row wr g (mcells N) 52) (h : j < N.length) (hx : N.getD j default = x) (hy : x = y) :
    Row wr g (mcells (N.set j y)) 52 := by
  rw [mset_n N j x h hx, hy] at hR
  exact hR
theorem apply_due {t : TieD} {x : MarkD} {D : Int} (h : x.due < 0 ∨ t.time < x.due) (hD : D = clampD t.time) : { x with due := D } = applyK 2 t x := by
  unfold applyK
  rw [if_pos rfl, if_pos h, hD]
theorem ix0 (w : World) : (Instr.index 115 (.agg #[.int .i64 2, .int .i64 4, .int .i64 3]) (.int .i64 0)).run Try.prog w = .ok (.int .i64 2) w := by kernel_rfl
theorem ix1 (w : World) : (Instr.index 115 (.agg #[.int .i64 2, .int .i64 4, .int .i64 3]) (.int .i64 1)).run Try.prog w = .ok (.int .i64 4) w := by kernel_rfl
theorem ix2 (w : World) : (Instr.index 115 (.agg #[.int .i64 2, .int .i64 4, .int .i64 3]) (.int .i64 2)).run Try.prog w = .ok (.int .i64 3) w := by kernel_rfl
set_option maxRecDepth 100000 in
set_option maxHeartbeats 1000000 in
theorem do_ok (f : FlatD) (a : Option Addr) (n c : Nat) (M : List MarkD) (k : Nat) (w : World) (hf : FlatAt w f) (h : MarksAt w a n M) (hn : n ≤ 100000) (hfit : fitsB f.en M = true) (hk : k < n) (he : enabB f M k = true) :
    Calls Try.prog 29 #[f.val, .slice a n c, .int .i64 k] w (NewM (doM f M k) n w) := by
  have hl := h.1
  have hen : f.en = n := by have := fits_len hfit; omega
  obtain ⟨ea, en, ec, ta, tn, tc, E, T⟩ := f
  simp only at hen
  have hr := (Fr.refl [] w).alloc (.cells #[.slice ea en ec, .slice ta tn tc] 25)
  have C1 := fits_any ⟨ea, en, ec, ta, tn, tc, E, T⟩ a n c M _ (h.fr hr) hn
  have HR := Lib.hid hr
  have C2 := Lib.hid (fun w' (g : Fr [] (w.alloc (.cells #[.slice ea en ec, .slice ta tn tc] 25)) w') => enab_any ⟨ea, en, ec, ta, tn, tc, E, T⟩ a n c M k w' ((hf.fr hr).fr g) ((h.fr hr).fr g) hn)
  have C3 := Lib.hid (fun w' (g : Fr [] w w') => copied_any a n c M w' (h.fr g) hn)
  have HT := Lib.hid hf.ties
  have hfew := hf.few2
  have HL := Lib.hid hl
  have HEN := Lib.hid hen
  rw [hfit] at C1
  rw [he] at C2
  have d1 : decide ((k : Int) < 0) = false := by rw [decide_eq_false_iff_not]; omega
  have d2 : decide ((k : Int) ≥ n) = false := by rw [decide_eq_false_iff_not]; omega
  have d3 : decide (k ≥ n) = false := by rw [decide_eq_false_iff_not]; omega
  clear h hr hfit hf he hl hen
  simp only [FlatD.val] at C1 C2 HT hfew ⊢
  go_enter Try.func29, Try.ntmps29
  go_wp2_with fail
  refine C1.mono ?_
  rintro e w2 ⟨rfl, hF⟩
  have f0 : w2.cell? ⟨w.heap.size, 0, none⟩ = some (.slice ea en ec) := cell_fr ((Row.new w [.slice ea en ec, .slice ta tn tc] 25).cell 0) hF
  have f1 : w2.cell? ⟨w.heap.size, 1, none⟩ = some (.slice ta tn tc) := cell_fr ((Row.new w [.slice ea en ec, .slice ta tn tc] 25).cell 1) hF
  have C4 := C2.out w2 hF
  have F2 := Lib.hid (HR.out.trans hF (by simp))
  clear hF
  go_wp2_with fail
  refine C4.mono ?_
  rintro e w3 ⟨rfl, hF⟩
  have g0 := cell_fr f0 hF
  have g1 := cell_fr f1 hF
  have C5 := C3.out w3 (F2.out.trans hF (by simp))
  have F3 := Lib.hid (F2.out.trans hF (by simp))
  have hw3 : w.heap.size < w3.heap.size := World.block_lt_of_cell? _ _ g0
  clear hF C4 f0 f1
  go_wp2_with fail
  refine C5.mono ?_
  rintro e w4 ⟨g, rfl, hg, hR4, hF4⟩
  have e0 := Lib.hid (cell_fr g0 hF4)
  have e1 := Lib.hid (cell_fr g1 hF4)
  have hgn : w.heap.size ≠ g := by omega
  have hgw : w.heap.size ≤ g := by omega
  have F4 := Lib.hid (F3.out.trans hF4 (by simp))
  have hkl : k < M.length := by rw [HL.out]; exact hk
  have y1 : w4.cell? ⟨g, k * 3 + 1, none⟩ = some (.int .i64 (M.getD k default).age) := by
    have := hR4.cell (k * 3 + 1); rw [mcells_at M k 1 hkl (by omega)] at this; exact this
  have y2 : w4.cell? ⟨g, k * 3 + 2, none⟩ = some (.int .i64 (M.getD k default).due) := by
    have := hR4.cell (k * 3 + 2); rw [mcells_at M k 2 hkl (by omega)] at this; exact this
  have z1 : w4.frozen? ⟨g, k * 3 + 1, none⟩ = false := hR4.frozen _
  have z2 : w4.frozen? ⟨g, k * 3 + 2, none⟩ = false := hR4.frozen _
  have hRD : Row ((w4.setCell ⟨g, k * 3 + 1, none⟩ (.int .i64 0)).setCell ⟨g, k * 3 + 2, none⟩ (.int .i64 (-1))) g (mcells (doneM M k)) 52 := by
    have h1 := (hR4.setCell (k * 3 + 1) (.int .i64 0)).setCell (k * 3 + 2) (.int .i64 (-1))
    rw [mset_ad M k _ hkl rfl] at h1
    exact h1
  have hFD : Fr [g] w4 ((w4.setCell ⟨g, k * 3 + 1, none⟩ (.int .i64 0)).setCell ⟨g, k * 3 + 2, none⟩ (.int .i64 (-1))) := ((Fr.refl _ _).setCell (by simp) _).setCell (by simp) _
  have RD := Lib.hid hRD
  have FD := Lib.hid hFD
  have HKL := Lib.hid hkl
  clear hg hR4 hF4 C5 g0 g1 hRD hFD hkl
  have x1 := cell_frS e1.out FD.out (show w.heap.size ≠ g from hgn)
  go_wp2_with fail
  have i0 := ix0
  refine wp_loop_rounds 4 ?_
  rw [rounds_succ]
  go_wp2_with fail
  clear i0
  have HB := Lib.hid (show (doneM M k).length = n by unfold doneM; rw [List.length_set, HL.out])
  generalize hW0 : ((w4.setCell ⟨g, k * 3 + 1, none⟩ (.int .i64 0)).setCell ⟨g, k * 3 + 2, none⟩ (.int .i64 (-1))) = W0 at RD FD x1 ⊢
  clear hW0
  go_loopg [51] tn (fun k' i wr => ∃ (j : Nat), k' = tn - j ∧ j ≤ tn ∧ i = .int .i64 j ∧ Row wr g (mcells (doK 2 k en (T.take j) (doneM M k))) 52 ∧ Fr [g] w4 wr)
  case atStart => exact ⟨0, rfl, by omega, rfl, RD.out, FD.out⟩
  case round =>
    obtain ⟨j, rfl, hj, rfl, hR, hF⟩ := hrel
    have R := Lib.hid hR
    have F := Lib.hid hF
    clear hR hF
    by_cases hjn : j < tn
    · have hd : decide (j < tn) = true := by rw [decide_eq_true_iff]; omega
      have FW := Lib.hid ((F4.out.mono (T := [g]) (by simp)).trans F.out (by simp))
      obtain ⟨b1, o1, rfl, hb1, hc1⟩ := (HT.out.2.frS FW.out hgw).at_ (by omega)
      have hcx := hc1 j hjn
      have hlen := doK_length 2 k en (T.take j) (doneM M k)
      have hsu := doK_succ 2 k en T j (by rw [HT.out.1]; exact hjn) (doneM M k)
      generalize T.getD j default = t at hcx hsu
      have hc' : ∀ k' v, ([.int .i64 t.kind, .int .i64 t.src, .int .i64 t.dst, .int .i64 t.time] : List Value)[k']? = some v → wr.cell? ⟨b1, o1 + j * 4 + k', none⟩ = some v := hcx
      have HC := Lib.hid hc'
      have HSU := Lib.hid hsu
      have HLEN := Lib.hid hlen
      clear hcx hc' hc1 hsu hlen
      have hlt5 : w.heap.size < wr.heap.size := by have := F.out.size; have := F4.out.size; have hx9 : w.heap.size < w4.heap.size := World.block_lt_of_cell? _ _ e0.out; omega
      go_wp2_with (first | ((with_reducible refine wpList_load_at rfl 57 (.tmp 53) rfl agg57 4 size57 b1 (o1 + j * 4) [.int .i64 t.kind, .int .i64 t.src, .int .i64 t.dst, .int .i64 t.time] rfl HC.out ?_ ?_); exact rfl) | ((with_reducible refine wpList_var_agg rfl rfl 57 (.tmp 12) (.tmp 54) rfl rfl 4 zero57 [.int .i64 t.kind, .int .i64 t.src, .int .i64 t.dst, .int .i64 t.time] rfl ?_ ?_ ?_ ?_); (intro u hu; simp at hu; rcases hu with rfl | rfl | rfl | rfl <;> rfl); exact rfl; exact rfl))
      intro w6 hr6 hs6 hf6
      have R6 := Lib.hid (R.out.fr hf6 (by simp))
      have F6 := Lib.hid (F.out.trans hf6 (by simp))
      have t0 : w6.cell? ⟨wr.heap.size, 0, none⟩ = some (.int .i64 t.kind) := hr6.cell 0
      have t1 : w6.cell? ⟨wr.heap.size, 1, none⟩ = some (.int .i64 t.src) := hr6.cell 1
      have t2 : w6.cell? ⟨wr.heap.size, 2, none⟩ = some (.int .i64 t.dst) := hr6.cell 2
      have t3 : w6.cell? ⟨wr.heap.size, 3, none⟩ = some (.int .i64 t.time) := hr6.cell 3
      have x0 : w6.cell? ⟨w.heap.size, 0, none⟩ = some (.slice ea en ec) := cell_frS e0.out F6.out hgn
      have x1' : w6.cell? ⟨w.heap.size, 1, none⟩ = some (.slice (some ⟨b1, o1, none⟩) tn tc) := cell_frS e1.out F6.out hgn
      have TR := Lib.hid hr6
      have C6 := ties_any ⟨ea, en, ec, some ⟨b1, o1, none⟩, tn, tc, E, T⟩ t w6
      simp only [FlatD.val, TieD.val] at C6
      clear hr6 hs6 hf6
      by_cases hkd : t.kind = 2
      · have ek : (t.kind != 2) = false := by simpa using hkd
        by_cases hsr : t.src = k
        · have es : (t.src != (k : Int)) = false := by simpa using hsr
          have HKD := Lib.hid hkd
          have HSR := Lib.hid hsr
          clear hkd hsr
          go_wp2_with fail
          refine C6.mono ?_
          rintro e w7 ⟨rfl, hF⟩
          have R7 := Lib.hid (R6.out.fr hF (by simp))
          have F7 := Lib.hid (F6.out.trans hF (by simp))
          have s2 : w7.cell? ⟨wr.heap.size, 2, none⟩ = some (.int .i64 t.dst) := cell_fr t2 hF
          have s3 : w7.cell? ⟨wr.heap.size, 3, none⟩ = some (.int .i64 t.time) := cell_fr t3 hF
          clear hF C6
          by_cases hb : t.between en = true
          · rw [hb]
            have hbb : 0 ≤ t.src ∧ t.src < en ∧ 0 ≤ t.dst ∧ t.dst < en := by unfold TieD.between at hb; exact of_decide_eq_true hb
            obtain ⟨dn, hdn⟩ := Int.eq_ofNat_of_zero_le hbb.2.2.1
            have hdl : dn < n := by have := HEN.out; omega
            have hNl : dn < (doK 2 k en (T.take j) (doneM M k)).length := by rw [HLEN.out, HB.out]; exact hdl
            have hst : stepK 2 k en (doK 2 k en (T.take j) (doneM M k)) t = (doK 2 k en (T.take j) (doneM M k)).set dn (applyK 2 t ((doK 2 k en (T.take j) (doneM M k)).getD dn default)) := by
              unfold stepK
              rw [if_pos ⟨HKD.out, HSR.out, hb⟩, show t.dst.toNat = dn by omega]
            have HST := Lib.hid (HSU.out.trans hst)
            have v0 := R7.out.cell (dn * 3 + 0)
            have v2 := R7.out.cell (dn * 3 + 2)
            have vf := R7.out.frozen (dn * 3 + 2)
            rw [mcells_at _ dn 0 hNl (by omega)] at v0
            rw [mcells_at _ dn 2 hNl (by omega)] at v2
            clear hb hbb hst
            generalize hNN : doK 2 k en (T.take j) (doneM M k) = N at hNl HST v0 v2 R7
            generalize hxx : N.getD dn default = x at v0 v2 HST
            have HXX := Lib.hid hxx
            have HNL := Lib.hid hNl
            have u2 : w7.cell? ⟨g, dn * 3 + 2, none⟩ = some (.int .i64 x.due) := v2
            clear v0 v2 hNN hxx hNl
            rw [hdn] at s2
            go_wp2_with fail
            have b2 : w7.drew.cell? ⟨g, dn * 3 + 2, none⟩ = some (.int .i64 x.due) := u2
            have b3 : w7.drew.cell? ⟨wr.heap.size, 3, none⟩ = some (.int .i64 t.time) := s3
            have vf2 : w7.drew.frozen? ⟨g, dn * 3 + 2, none⟩ = false := vf
            by_cases hu : x.due < 0
            · have du : decide (x.due < 0) = true := by simpa using hu
              have HV := Lib.hid (show x.due < 0 ∨ t.time < x.due from .inl hu)
              go_region
              all_goals
                go_wp2_with fail
                all_goals
                  go_roundg (tn - (j + 1))
                  case measure => omega
                  case rel => exact ⟨j + 1, rfl, by omega, rfl, by rw [HST.out]; exact rowD (R7.out.drewN 1) HNL.out HXX.out (apply_due HV.out (by unfold clampD; split <;> (try split) <;> omega)), (F7.out.drewN 1).setCell (by simp) _⟩
            · have du : decide (x.due < 0) = false := by simpa using hu
              by_cases hv : t.time < x.due
              · have dv : decide (t.time < x.due) = true := by simpa using hv
                have HV := Lib.hid (show x.due < 0 ∨ t.time < x.due from .inr hv)
                go_region_held_law (fun w' => w'.cell? ⟨g, dn * 3 + 2, none⟩ = some (.int .i64 x.due) ∧ w'.cell? ⟨wr.heap.size, 3, none⟩ = some (.int .i64 t.time)) (go_keep) (fail)
                all_goals
                  go_wp2_with fail
                  all_goals
                    go_roundg (tn - (j + 1))
                    case measure => omega
                    case rel => exact ⟨j + 1, rfl, by omega, rfl, by rw [HST.out]; exact rowD (R7.out.drewN 1) HNL.out HXX.out (apply_due HV.out (by unfold clampD; split <;> (try split) <;> omega)), (F7.out.drewN 1).setCell (by simp) _⟩
              · have dv : decide (t.time < x.due) = false := by simpa using hv
                have hA : x = applyK 2 t x := by unfold applyK; rw [if_pos rfl, if_neg (by omega)]
                have HA := Lib.hid hA
                clear hA
                go_region_held_law (fun w' => w'.cell? ⟨g, dn * 3 + 2, none⟩ = some (.int .i64 x.due) ∧ w'.cell? ⟨wr.heap.size, 3, none⟩ = some (.int .i64 t.time)) (go_keep) (fail)
                all_goals
                  go_wp2_with fail
                  go_roundg (tn - (j + 1))
                  case measure => omega
                  case rel => exact ⟨j + 1, rfl, by omega, rfl, by rw [HST.out]; exact rowN (R7.out.drewN 1) HNL.out HXX.out HA.out, F7.out.drewN 1⟩
          · have hb : t.between en = false := by simpa using hb
            have hst : stepK 2 k en (doK 2 k en (T.take j) (doneM M k)) t = doK 2 k en (T.take j) (doneM M k) := by unfold stepK; rw [if_neg (fun h => by rw [hb] at h; simp at h)]
            have HST := Lib.hid hst
            rw [hb]
            clear hst hb
            go_wp2_with fail
            go_roundg (tn - (j + 1))
            case measure => omega
            case rel => exact ⟨j + 1, rfl, by omega, rfl, by rw [HSU.out, HST.out]; exact R7.out, F7.out⟩
        · have es : (t.src != (k : Int)) = true := by simpa using hsr
          have hst : stepK 2 k en (doK 2 k en (T.take j) (doneM M k)) t = doK 2 k en (T.take j) (doneM M k) := by unfold stepK; rw [if_neg (fun h => hsr h.2.1)]
          have HST := Lib.hid hst
          clear hst hsr hkd
          go_wp2_with fail
          go_roundg (tn - (j + 1))
          case measure => omega
          case rel => exact ⟨j + 1, rfl, by omega, rfl, by rw [HSU.out, HST.out]; exact R6.out, F6.out⟩
      · have ek : (t.kind != 2) = true := by simpa using hkd
        have hst : stepK 2 k en (doK 2 k en (T.take j) (doneM M k)) t = doK 2 k en (T.take j) (doneM M k) := by unfold stepK; rw [if_neg (fun h => hkd h.1)]
        have HST := Lib.hid hst
        clear hst hkd
        go_wp2_with fail
        go_roundg (tn - (j + 1))
        case measure => omega
        case rel => exact ⟨j + 1, rfl, by omega, rfl, by rw [HSU.out, HST.out]; exact R6.out, F6.out⟩
    · have hd : decide (j < tn) = false := by rw [decide_eq_false_iff_not]; omega
      have hfull : T.take j = T := List.take_of_length_le (by rw [HT.out.1]; omega)
      have hR := R.out
      rw [hfull] at hR
      have RD := Lib.hid hR
      have FD := Lib.hid F.out
      have hB := doK_length 2 k en T (doneM M k)
      have HB := Lib.hid (hB.trans HB.out)
      have x1 := cell_frS e1.out FD.out (show w.heap.size ≠ g from hgn)
      clear hfull hR hB R F
      go_wp2_with fail
      rw [rounds_succ]
      have i0 := ix1
      go_wp2_with fail
      clear i0
      go_loopg [51] tn (fun k' i wr => ∃ (j : Nat), k' = tn - j ∧ j ≤ tn ∧ i = .int .i64 j ∧ Row wr g (mcells (doK 4 k en (T.take j) (doK 2 k en T (doneM M k)))) 52 ∧ Fr [g] w4 wr)
      case atStart => exact ⟨0, rfl, by omega, rfl, RD.out, FD.out⟩
      case round =>
        obtain ⟨j, rfl, hj, rfl, hR, hF⟩ := hrel
        have R := Lib.hid hR
        have F := Lib.hid hF
        clear hR hF
        by_cases hjn : j < tn
        · have hd : decide (j < tn) = true := by rw [decide_eq_true_iff]; omega
          have FW := Lib.hid ((F4.out.mono (T := [g]) (by simp)).trans F.out (by simp))
          obtain ⟨b1, o1, rfl, hb1, hc1⟩ := (HT.out.2.frS FW.out hgw).at_ (by omega)
          have hcx := hc1 j hjn
          have hlen := doK_length 4 k en (T.take j) (doK 2 k en T (doneM M k))
          have hsu := doK_succ 4 k en T j (by rw [HT.out.1]; exact hjn) (doK 2 k en T (doneM M k))
          generalize T.getD j default = t at hcx hsu
          have hc' : ∀ k' v, ([.int .i64 t.kind, .int .i64 t.src, .int .i64 t.dst, .int .i64 t.time] : List Value)[k']? = some v → wr.cell? ⟨b1, o1 + j * 4 + k', none⟩ = some v := hcx
          have HC := Lib.hid hc'
          have HSU := Lib.hid hsu
          have HLEN := Lib.hid hlen
          clear hcx hc' hc1 hsu hlen
          have hlt5 : w.heap.size < wr.heap.size := by have := F.out.size; have := F4.out.size; have hx9 : w.heap.size < w4.heap.size := World.block_lt_of_cell? _ _ e0.out; omega
          go_wp2_with (first | ((with_reducible refine wpList_load_at rfl 57 (.tmp 53) rfl agg57 4 size57 b1 (o1 + j * 4) [.int .i64 t.kind, .int .i64 t.src, .int .i64 t.dst, .int .i64 t.time] rfl HC.out ?_ ?_); exact rfl) | ((with_reducible refine wpList_var_agg rfl rfl 57 (.tmp 12) (.tmp 54) rfl rfl 4 zero57 [.int .i64 t.kind, .int .i64 t.src, .int .i64 t.dst, .int .i64 t.time] rfl ?_ ?_ ?_ ?_); (intro u hu; simp at hu; rcases hu with rfl | rfl | rfl | rfl <;> rfl); exact rfl; exact rfl))
          intro w6 hr6 hs6 hf6
          have R6 := Lib.hid (R.out.fr hf6 (by simp))
          have F6 := Lib.hid (F.out.trans hf6 (by simp))
          have t0 : w6.cell? ⟨wr.heap.size, 0, none⟩ = some (.int .i64 t.kind) := hr6.cell 0
          have t1 : w6.cell? ⟨wr.heap.size, 1, none⟩ = some (.int .i64 t.src) := hr6.cell 1
          have t2 : w6.cell? ⟨wr.heap.size, 2, none⟩ = some (.int .i64 t.dst) := hr6.cell 2
          have t3 : w6.cell? ⟨wr.heap.size, 3, none⟩ = some (.int .i64 t.time) := hr6.cell 3
          have x0 : w6.cell? ⟨w.heap.size, 0, none⟩ = some (.slice ea en ec) := cell_frS e0.out F6.out hgn
          have x1' : w6.cell? ⟨w.heap.size, 1, none⟩ = some (.slice (some ⟨b1, o1, none⟩) tn tc) := cell_frS e1.out F6.out hgn
          have TR := Lib.hid hr6
          have C6 := ties_any ⟨ea, en, ec, some ⟨b1, o1, none⟩, tn, tc, E, T⟩ t w6
          simp only [FlatD.val, TieD.val] at C6
          clear hr6 hs6 hf6
          by_cases hkd : t.kind = 4
          · have ek : (t.kind != 4) = false := by simpa using hkd
            by_cases hsr : t.src = k
            · have es : (t.src != (k : Int)) = false := by simpa using hsr
              have HKD := Lib.hid hkd
              have HSR := Lib.hid hsr
              clear hkd hsr
              go_wp2_with fail
              refine C6.mono ?_
              rintro e w7 ⟨rfl, hF⟩
              have R7 := Lib.hid (R6.out.fr hF (by simp))
              have F7 := Lib.hid (F6.out.trans hF (by simp))
              have s2 : w7.cell? ⟨wr.heap.size, 2, none⟩ = some (.int .i64 t.dst) := cell_fr t2 hF
              have s3 : w7.cell? ⟨wr.heap.size, 3, none⟩ = some (.int .i64 t.time) := cell_fr t3 hF
              clear hF C6
              by_cases hb : t.between en = true
              · rw [hb]
                have hbb : 0 ≤ t.src ∧ t.src < en ∧ 0 ≤ t.dst ∧ t.dst < en := by unfold TieD.between at hb; exact of_decide_eq_true hb
                obtain ⟨dn, hdn⟩ := Int.eq_ofNat_of_zero_le hbb.2.2.1
                have hdl : dn < n := by have := HEN.out; omega
                have hNl : dn < (doK 4 k en (T.take j) (doK 2 k en T (doneM M k))).length := by rw [HLEN.out, HB.out]; exact hdl
                have hst : stepK 4 k en (doK 4 k en (T.take j) (doK 2 k en T (doneM M k))) t = (doK 4 k en (T.take j) (doK 2 k en T (doneM M k))).set dn (applyK 4 t ((doK 4 k en (T.take j) (doK 2 k en T (doneM M k))).getD dn default)) := by
                  unfold stepK
                  rw [if_pos ⟨HKD.out, HSR.out, hb⟩, show t.dst.toNat = dn by omega]
                have HST := Lib.hid (HSU.out.trans hst)
                have v0 := R7.out.cell (dn * 3 + 0)
                have v2 := R7.out.cell (dn * 3 + 2)
                have vf := R7.out.frozen (dn * 3 + 2)
                rw [mcells_at _ dn 0 hNl (by omega)] at v0
                rw [mcells_at _ dn 2 hNl (by omega)] at v2
                clear hb hbb hst
                generalize hNN : doK 4 k en (T.take j) (doK 2 k en T (doneM M k)) = N at hNl HST v0 v2 R7
                generalize hxx : N.getD dn default = x at v0 v2 HST
                have HXX := Lib.hid hxx
                have HNL := Lib.hid hNl
                have u2 : w7.cell? ⟨g, dn * 3, none⟩ = some (.bool x.inn) := v0
                clear v0 v2 hNN hxx hNl
                rw [hdn] at s2
                have vf0 : w7.frozen? ⟨g, dn * 3, none⟩ = false := R7.out.frozen (dn * 3)
                have hA : { x with inn := false } = applyK 4 t x := by unfold applyK; rw [if_neg (by decide)]; rfl
                have HA := Lib.hid hA
                clear hA
                go_wp2_with fail
                go_roundg (tn - (j + 1))
                case measure => omega
                case rel => exact ⟨j + 1, rfl, by omega, rfl, by rw [HST.out]; exact rowI R7.out HNL.out HXX.out HA.out, F7.out.setCell (by simp) _⟩
              · have hb : t.between en = false := by simpa using hb
                have hst : stepK 4 k en (doK 4 k en (T.take j) (doK 2 k en T (doneM M k))) t = doK 4 k en (T.take j) (doK 2 k en T (doneM M k)) := by unfold stepK; rw [if_neg (fun h => by rw [hb] at h; simp at h)]
                have HST := Lib.hid hst
                rw [hb]
                clear hst hb
                go_wp2_with fail
                go_roundg (tn - (j + 1))
                case measure => omega
                case rel => exact ⟨j + 1, rfl, by omega, rfl, by rw [HSU.out, HST.out]; exact R7.out, F7.out⟩
            · have es : (t.src != (k : Int)) = true := by simpa using hsr
              have hst : stepK 4 k en (doK 4 k en (T.take j) (doK 2 k en T (doneM M k))) t = doK 4 k en (T.take j) (doK 2 k en T (doneM M k)) := by unfold stepK; rw [if_neg (fun h => hsr h.2.1)]
              have HST := Lib.hid hst
              clear hst hsr hkd
              go_wp2_with fail
              go_roundg (tn - (j + 1))
              case measure => omega
              case rel => exact ⟨j + 1, rfl, by omega, rfl, by rw [HSU.out, HST.out]; exact R6.out, F6.out⟩
          · have ek : (t.kind != 4) = true := by simpa using hkd
            have hst : stepK 4 k en (doK 4 k en (T.take j) (doK 2 k en T (doneM M k))) t = doK 4 k en (T.take j) (doK 2 k en T (doneM M k)) := by unfold stepK; rw [if_neg (fun h => hkd h.1)]
            have HST := Lib.hid hst
            clear hst hkd
            go_wp2_with fail
            go_roundg (tn - (j + 1))
            case measure => omega
            case rel => exact ⟨j + 1, rfl, by omega, rfl, by rw [HSU.out, HST.out]; exact R6.out, F6.out⟩
        · have hd : decide (j < tn) = false := by rw [decide_eq_false_iff_not]; omega
          have hfull : T.take j = T := List.take_of_length_le (by rw [HT.out.1]; omega)
          have hR := R.out
          rw [hfull] at hR
          have RD := Lib.hid hR
          have FD := Lib.hid F.out
          have hB := doK_length 4 k en T (doK 2 k en T (doneM M k))
          have HB := Lib.hid (hB.trans HB.out)
          have x1 := cell_frS e1.out FD.out (show w.heap.size ≠ g from hgn)
          clear hfull hR hB R F
          go_wp2_with fail
          rw [rounds_succ]
          have i0 := ix2
          go_wp2_with fail
          clear i0
          go_loopg [51] tn (fun k' i wr => ∃ (j : Nat), k' = tn - j ∧ j ≤ tn ∧ i = .int .i64 j ∧ Row wr g (mcells (doK 3 k en (T.take j) (doK 4 k en T (doK 2 k en T (doneM M k))))) 52 ∧ Fr [g] w4 wr)
          case atStart => exact ⟨0, rfl, by omega, rfl, RD.out, FD.out⟩
          case round =>
            obtain ⟨j, rfl, hj, rfl, hR, hF⟩ := hrel
            have R := Lib.hid hR
            have F := Lib.hid hF
            clear hR hF
            by_cases hjn : j < tn
            · have hd : decide (j < tn) = true := by rw [decide_eq_true_iff]; omega
              have FW := Lib.hid ((F4.out.mono (T := [g]) (by simp)).trans F.out (by simp))
              obtain ⟨b1, o1, rfl, hb1, hc1⟩ := (HT.out.2.frS FW.out hgw).at_ (by omega)
              have hcx := hc1 j hjn
              have hlen := doK_length 3 k en (T.take j) (doK 4 k en T (doK 2 k en T (doneM M k)))
              have hsu := doK_succ 3 k en T j (by rw [HT.out.1]; exact hjn) (doK 4 k en T (doK 2 k en T (doneM M k)))
              generalize T.getD j default = t at hcx hsu
              have hc' : ∀ k' v, ([.int .i64 t.kind, .int .i64 t.src, .int .i64 t.dst, .int .i64 t.time] : List Value)[k']? = some v → wr.cell? ⟨b1, o1 + j * 4 + k', none⟩ = some v := hcx
              have HC := Lib.hid hc'
              have HSU := Lib.hid hsu
              have HLEN := Lib.hid hlen
              clear hcx hc' hc1 hsu hlen
              have hlt5 : w.heap.size < wr.heap.size := by have := F.out.size; have := F4.out.size; have hx9 : w.heap.size < w4.heap.size := World.block_lt_of_cell? _ _ e0.out; omega
              go_wp2_with (first | ((with_reducible refine wpList_load_at rfl 57 (.tmp 53) rfl agg57 4 size57 b1 (o1 + j * 4) [.int .i64 t.kind, .int .i64 t.src, .int .i64 t.dst, .int .i64 t.time] rfl HC.out ?_ ?_); exact rfl) | ((with_reducible refine wpList_var_agg rfl rfl 57 (.tmp 12) (.tmp 54) rfl rfl 4 zero57 [.int .i64 t.kind, .int .i64 t.src, .int .i64 t.dst, .int .i64 t.time] rfl ?_ ?_ ?_ ?_); (intro u hu; simp at hu; rcases hu with rfl | rfl | rfl | rfl <;> rfl); exact rfl; exact rfl))
              intro w6 hr6 hs6 hf6
              have R6 := Lib.hid (R.out.fr hf6 (by simp))
              have F6 := Lib.hid (F.out.trans hf6 (by simp))
              have t0 : w6.cell? ⟨wr.heap.size, 0, none⟩ = some (.int .i64 t.kind) := hr6.cell 0
              have t1 : w6.cell? ⟨wr.heap.size, 1, none⟩ = some (.int .i64 t.src) := hr6.cell 1
              have t2 : w6.cell? ⟨wr.heap.size, 2, none⟩ = some (.int .i64 t.dst) := hr6.cell 2
              have t3 : w6.cell? ⟨wr.heap.size, 3, none⟩ = some (.int .i64 t.time) := hr6.cell 3
              have x0 : w6.cell? ⟨w.heap.size, 0, none⟩ = some (.slice ea en ec) := cell_frS e0.out F6.out hgn
              have x1' : w6.cell? ⟨w.heap.size, 1, none⟩ = some (.slice (some ⟨b1, o1, none⟩) tn tc) := cell_frS e1.out F6.out hgn
              have TR := Lib.hid hr6
              have C6 := ties_any ⟨ea, en, ec, some ⟨b1, o1, none⟩, tn, tc, E, T⟩ t w6
              simp only [FlatD.val, TieD.val] at C6
              clear hr6 hs6 hf6
              by_cases hkd : t.kind = 3
              · have ek : (t.kind != 3) = false := by simpa using hkd
                by_cases hsr : t.src = k
                · have es : (t.src != (k : Int)) = false := by simpa using hsr
                  have HKD := Lib.hid hkd
                  have HSR := Lib.hid hsr
                  clear hkd hsr
                  go_wp2_with fail
                  refine C6.mono ?_
                  rintro e w7 ⟨rfl, hF⟩
                  have R7 := Lib.hid (R6.out.fr hF (by simp))
                  have F7 := Lib.hid (F6.out.trans hF (by simp))
                  have s2 : w7.cell? ⟨wr.heap.size, 2, none⟩ = some (.int .i64 t.dst) := cell_fr t2 hF
                  have s3 : w7.cell? ⟨wr.heap.size, 3, none⟩ = some (.int .i64 t.time) := cell_fr t3 hF
                  clear hF C6
                  by_cases hb : t.between en = true
                  · rw [hb]
                    have hbb : 0 ≤ t.src ∧ t.src < en ∧ 0 ≤ t.dst ∧ t.dst < en := by unfold TieD.between at hb; exact of_decide_eq_true hb
                    obtain ⟨dn, hdn⟩ := Int.eq_ofNat_of_zero_le hbb.2.2.1
                    have hdl : dn < n := by have := HEN.out; omega
                    have hNl : dn < (doK 3 k en (T.take j) (doK 4 k en T (doK 2 k en T (doneM M k)))).length := by rw [HLEN.out, HB.out]; exact hdl
                    have hst : stepK 3 k en (doK 3 k en (T.take j) (doK 4 k en T (doK 2 k en T (doneM M k)))) t = (doK 3 k en (T.take j) (doK 4 k en T (doK 2 k en T (doneM M k)))).set dn (applyK 3 t ((doK 3 k en (T.take j) (doK 4 k en T (doK 2 k en T (doneM M k)))).getD dn default)) := by
                      unfold stepK
                      rw [if_pos ⟨HKD.out, HSR.out, hb⟩, show t.dst.toNat = dn by omega]
                    have HST := Lib.hid (HSU.out.trans hst)
                    have v0 := R7.out.cell (dn * 3 + 0)
                    have v2 := R7.out.cell (dn * 3 + 2)
                    have vf := R7.out.frozen (dn * 3 + 2)
                    rw [mcells_at _ dn 0 hNl (by omega)] at v0
                    rw [mcells_at _ dn 2 hNl (by omega)] at v2
                    clear hb hbb hst
                    generalize hNN : doK 3 k en (T.take j) (doK 4 k en T (doK 2 k en T (doneM M k))) = N at hNl HST v0 v2 R7
                    generalize hxx : N.getD dn default = x at v0 v2 HST
                    have HXX := Lib.hid hxx
                    have HNL := Lib.hid hNl
                    have u2 : w7.cell? ⟨g, dn * 3, none⟩ = some (.bool x.inn) := v0
                    clear v0 v2 hNN hxx hNl
                    rw [hdn] at s2
                    have vf0 : w7.frozen? ⟨g, dn * 3, none⟩ = false := R7.out.frozen (dn * 3)
                    have hA : { x with inn := true } = applyK 3 t x := by unfold applyK; rw [if_neg (by decide)]; rfl
                    have HA := Lib.hid hA
                    clear hA
                    go_wp2_with fail
                    go_roundg (tn - (j + 1))
                    case measure => omega
                    case rel => exact ⟨j + 1, rfl, by omega, rfl, by rw [HST.out]; exact rowI R7.out HNL.out HXX.out HA.out, F7.out.setCell (by simp) _⟩
                  · have hb : t.between en = false := by simpa using hb
                    have hst : stepK 3 k en (doK 3 k en (T.take j) (doK 4 k en T (doK 2 k en T (doneM M k)))) t = doK 3 k en (T.take j) (doK 4 k en T (doK 2 k en T (doneM M k))) := by unfold stepK; rw [if_neg (fun h => by rw [hb] at h; simp at h)]
                    have HST := Lib.hid hst
                    rw [hb]
                    clear hst hb
                    go_wp2_with fail
                    go_roundg (tn - (j + 1))
                    case measure => omega
                    case rel => exact ⟨j + 1, rfl, by omega, rfl, by rw [HSU.out, HST.out]; exact R7.out, F7.out⟩
                · have es : (t.src != (k : Int)) = true := by simpa using hsr
                  have hst : stepK 3 k en (doK 3 k en (T.take j) (doK 4 k en T (doK 2 k en T (doneM M k)))) t = doK 3 k en (T.take j) (doK 4 k en T (doK 2 k en T (doneM M k))) := by unfold stepK; rw [if_neg (fun h => hsr h.2.1)]
                  have HST := Lib.hid hst
                  clear hst hsr hkd
                  go_wp2_with fail
                  go_roundg (tn - (j + 1))
                  case measure => omega
                  case rel => exact ⟨j + 1, rfl, by omega, rfl, by rw [HSU.out, HST.out]; exact R6.out, F6.out⟩
              · have ek : (t.kind != 3) = true := by simpa using hkd
                have hst : stepK 3 k en (doK 3 k en (T.take j) (doK 4 k en T (doK 2 k en T (doneM M k)))) t = doK 3 k en (T.take j) (doK 4 k en T (doK 2 k en T (doneM M k))) := by unfold stepK; rw [if_neg (fun h => hkd h.1)]
                have HST := Lib.hid hst
                clear hst hkd
                go_wp2_with fail
                go_roundg (tn - (j + 1))
                case measure => omega
                case rel => exact ⟨j + 1, rfl, by omega, rfl, by rw [HSU.out, HST.out]; exact R6.out, F6.out⟩
            · have hd : decide (j < tn) = false := by rw [decide_eq_false_iff_not]; omega
              have hfull : T.take j = T := List.take_of_length_le (by rw [HT.out.1]; omega)
              have hR := R.out
              rw [hfull] at hR
              have RD := Lib.hid hR
              have FD := Lib.hid F.out
              have hB := doK_length 3 k en T (doK 4 k en T (doK 2 k en T (doneM M k)))
              have HB := Lib.hid (hB.trans HB.out)
              have x1 := cell_frS e1.out FD.out (show w.heap.size ≠ g from hgn)
              clear hfull hR hB R F
              go_wp2_with fail
              rw [rounds_succ]
              go_wp2_with fail
              go_ret2
              exact ⟨g, rfl, hgw, RD.out, F4.out.trans FD.out (by intro y hy; simp at hy; exact .inr (by omega))⟩
end Go.Proofs.Ytclkahggfdnpgaa
set_option linter.unusedVariables false
set_option linter.unusedSimpArgs false
namespace Go.Proofs.Ytclkahggfdnpgaa
open Go.RowKit
theorem infoInt : (Try.prog.info? 3).map (fun i => (i.zero, i.size, i.bytes)) = some (some (.int .i64 0), 1, 8) := by kernel_rfl
end Go.Proofs.Ytclkahggfdnpgaa
set_option linter.unusedVariables false
set_option linter.unusedSimpArgs false
namespace Go.Proofs.Ytclkahggfdnpgaa
open Go.RowKit
/-- Why an event can't be done (0: it can). -/
def doE (f : FlatD) (M : List MarkD) (i : Int) : Int :=
  if fitsB f.en M = false then 1 else if i < 0 ∨ (M.length : Int) ≤ i then 3 else if enabB f M i = false then 11 else 0
def tickE (f : FlatD) (M : List MarkD) : Int := if slackI f.en M = -1 then 1 else if slackI f.en M = 0 then 13 else 0
theorem marks_nil (w : World) : MarksAt w none 0 [] := ⟨rfl, ⟨fun h => absurd h (by omega)⟩⟩
theorem doM_length (f : FlatD) (M : List MarkD) (k : Nat) : (doM f M k).length = M.length := by
  unfold doM
  rw [doK_length, doK_length, doK_length]
  unfold doneM
  rw [List.length_set]
end Go.Proofs.Ytclkahggfdnpgaa
