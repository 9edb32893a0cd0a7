/- Ticks. -/
import Derived.Test.YtclkahggfdnpgaaMk4
import Derived.Test.YtclkahggfdnpgaaMk5
set_option linter.unusedVariables false
set_option linter.unusedSimpArgs false
namespace Go.Proofs.Ytclkahggfdnpgaa
open Go.RowKit
def tickA (x : MarkD) : Int := if x.age ≥ 0 then (if x.age + 1 < 65536 then x.age + 1 else 65536) else x.age
def tickU (x : MarkD) : Int := if x.inn = true ∧ x.due > 0 ∧ x.due < 1048576 then x.due - 1 else x.due
def tickM (x : MarkD) : MarkD := { x with age := tickA x, due := tickU x }
theorem getD_set_same (N : List MarkD) (i : Nat) (x : MarkD) (h : i < N.length) : (N.set i x).getD i default = x := by
  rw [List.getD_eq_getElem?_getD, List.getElem?_set_self h]; rfl
theorem mset_a (N : List MarkD) (i : Nat) (x : MarkD) (h : i < N.length) (hx : N.getD i default = x) (a : Int) : (mcells N).set (i * 3 + 1) (.int .i64 a) = mcells (N.set i { x with age := a }) := by
  have := (mcells_set N i h (.int .i64 a)).2.1 a rfl
  rw [hx] at this
  exact this
theorem mset_d (N : List MarkD) (i : Nat) (x : MarkD) (h : i < N.length) (hx : N.getD i default = x) (a : Int) : (mcells N).set (i * 3 + 2) (.int .i64 a) = mcells (N.set i { x with due := a }) := by
  have := (mcells_set N i h (.int .i64 a)).2.2 a rfl
  rw [hx] at this
  exact this
theorem mset_i (N : List MarkD) (i : Nat) (x : MarkD) (h : i < N.length) (hx : N.getD i default = x) (b : Bool) : (mcells N).set (i * 3) (.bool b) = mcells (N.set i { x with inn := b }) := by
  have := (mcells_set N i h (.bool b)).1 b rfl
  rw [hx] at this
  exact this
theorem mset_ad (N : List MarkD) (i : Nat) (x : MarkD) (h : i < N.length) (hx : N.getD i default = x) (a d : Int) : ((mcells N).set (i * 3 + 1) (.int .i64 a)).set (i * 3 + 2) (.int .i64 d) = mcells (N.set i { x with age := a, due := d }) := by
  rw [mset_a N i x h hx, mset_d _ i { x with age := a } (by simpa using h) (getD_set_same _ _ _ h), List.set_set]
theorem mset_n (N : List MarkD) (i : Nat) (x : MarkD) (h : i < N.length) (hx : N.getD i default = x) : mcells N = mcells (N.set i x) := by
  have : N.set i x = N := by
    have h2 := getD_at N i h
    rw [hx] at h2
    obtain ⟨_, h3⟩ := List.getElem?_eq_some_iff.1 h2
    rw [← h3, List.set_getElem_self]
  rw [this]
/-- A list whose first j are changed. -/
def upto (g : MarkD → MarkD) (M : List MarkD) (j : Nat) : List MarkD := (M.take j).map g ++ M.drop j
theorem upto_length (g : MarkD → MarkD) (M : List MarkD) (j : Nat) : (upto g M j).length = M.length := by
  unfold upto
  rw [List.length_append, List.length_map, ← List.length_append, List.take_append_drop]
theorem upto_at (g : MarkD → MarkD) (M : List MarkD) (j : Nat) (h : j < M.length) : (upto g M j).getD j default = M.getD j default := by
  unfold upto
  have hl : ((M.take j).map g).length = j := by rw [List.length_map, List.length_take]; omega
  rw [List.getD_eq_getElem?_getD, List.getD_eq_getElem?_getD, List.getElem?_append_right (by omega), hl, List.getElem?_drop]
  simp
theorem upto_succ (g : MarkD → MarkD) (M : List MarkD) (j : Nat) (h : j < M.length) : (upto g M j).set j (g (M.getD j default)) = upto g M (j + 1) := by
  unfold upto
  have hl : ((M.take j).map g).length = j := by rw [List.length_map, List.length_take]; omega
  rw [List.set_append, if_neg (by omega), hl, Nat.sub_self, take_succD M j h, List.map_append, List.append_assoc]
  congr 1
  have h2 : M.drop j = M.getD j default :: M.drop (j + 1) := by
    have h3 := getD_at M j h
    obtain ⟨h4, h5⟩ := List.getElem?_eq_some_iff.1 h3
    rw [← h5]
    exact List.drop_eq_getElem_cons h4
  rw [h2]
  rfl
theorem upto_full (g : MarkD → MarkD) (M : List MarkD) (j : Nat) (h : M.length ≤ j) : upto g M j = M.map g := by
  unfold upto
  rw [List.take_of_length_le h, List.drop_eq_nil_of_le h, List.append_nil]
theorem fits_not {k : Nat} {M : List MarkD} (h : fitsB k M = true) : ∀ x ∈ M, x.bad = false := by
  unfold fitsB at h
  simp at h
  exact h.2
theorem not_bad {x : MarkD} (h : x.bad = false) : -1 ≤ x.age ∧ x.age ≤ 65536 ∧ -1 ≤ x.due ∧ x.due ≤ 1048576 := by
  unfold MarkD.bad withinB at h
  simp at h
  omega
theorem getD_mem (M : List MarkD) (j : Nat) (h : j < M.length) : M.getD j default ∈ M := List.mem_of_getElem? (getD_at M j h)
theorem slack_fits {k : Nat} {M : List MarkD} (h : slackI k M ≠ -1) : fitsB k M = true := by
  unfold slackI at h
  by_cases hf : fitsB k M = true
  · exact hf
  · rw [if_neg hf] at h
    exact absurd rfl h
theorem tick_no1 (f : FlatD) (a : Option Addr) (n c : Nat) (M : List MarkD) (w : World) (h : MarksAt w a n M) (hn : n ≤ 100000) (hs : slackI f.en M = -1) :
    Calls Try.prog 31 #[f.val, .slice a n c] w fun e w' => e = .returned (.tuple #[.slice none 0 0, .int .i64 1]) ∧ Fr [] w w' := by
  have hr := (Fr.refl [] w).alloc (.cells #[.slice f.ea f.en f.ec, .slice f.ta f.tn f.tc] 25)
  have C1 := slack_any f a n c M _ (h.fr hr) hn
  have HR := Lib.hid hr
  rw [hs] at C1
  clear h hr hs
  unfold FlatD.val at C1 ⊢
  go_enter Try.func31, Try.ntmps31
  go_wp2_with fail
  refine C1.mono ?_
  rintro e w2 ⟨rfl, hF⟩
  go_wp2_with fail
  go_ret2
  exact ⟨rfl, HR.out.trans hF (by simp)⟩
theorem tick_no0 (f : FlatD) (a : Option Addr) (n c : Nat) (M : List MarkD) (w : World) (h : MarksAt w a n M) (hn : n ≤ 100000) (hs : slackI f.en M = 0) :
    Calls Try.prog 31 #[f.val, .slice a n c] w fun e w' => e = .returned (.tuple #[.slice none 0 0, .int .i64 13]) ∧ Fr [] w w' := by
  have hr := (Fr.refl [] w).alloc (.cells #[.slice f.ea f.en f.ec, .slice f.ta f.tn f.tc] 25)
  have C1 := slack_any f a n c M _ (h.fr hr) hn
  have HR := Lib.hid hr
  rw [hs] at C1
  clear h hr hs
  unfold FlatD.val at C1 ⊢
  go_enter Try.func31, Try.ntmps31
  go_wp2_with fail
  refine C1.mono ?_
  rintro e w2 ⟨rfl, hF⟩
  go_wp2_with fail
  go_ret2
  exact ⟨rfl, HR.out.trans hF (by simp)⟩
section
variable {wr : World} {g j : Nat} {N : List MarkD} {x : MarkD} {A D : Int}
theorem row_ad (hR : Row wr g (mcells N) 52) (h : j < N.length) (hx : N.getD j default = x) (hA : A = tickA x) (hD : D = tickU x) :
    Row ((wr.setCell ⟨g, j * 3 + 1, none⟩ (.int .i64 A)).setCell ⟨g, j * 3 + 2, none⟩ (.int .i64 D)) g (mcells (N.set j (tickM x))) 52 := by
  have h1 := (hR.setCell (j * 3 + 1) (.int .i64 A)).setCell (j * 3 + 2) (.int .i64 D)
  rw [mset_ad N j x h hx, hA, hD] at h1
  rw [hA, hD]
  exact h1
theorem row_a (hR : Row wr g (mcells N) 52) (h : j < N.length) (hx : N.getD j default = x) (hA : A = tickA x) (hD : x.due = tickU x) :
    Row (wr.setCell ⟨g, j * 3 + 1, none⟩ (.int .i64 A)) g (mcells (N.set j (tickM x))) 52 := by
  have h1 := (hR.setCell (j * 3 + 1) (.int .i64 A))
  rw [mset_a N j x h hx, hA] at h1
  rw [hA]
  unfold tickM
  rw [← hD]
  exact h1
theorem row_d (hR : Row wr g (mcells N) 52) (h : j < N.length) (hx : N.getD j default = x) (hA : x.age = tickA x) (hD : D = tickU x) :
    Row (wr.setCell ⟨g, j * 3 + 2, none⟩ (.int .i64 D)) g (mcells (N.set j (tickM x))) 52 := by
  have h1 := (hR.setCell (j * 3 + 2) (.int .i64 D))
  rw [mset_d N j x h hx, hD] at h1
  rw [hD]
  unfold tickM
  rw [← hA]
  exact h1
theorem row_n (hR : Row wr g (mcells N) 52) (h : j < N.length) (hx : N.getD j default = x) (hA : x.age = tickA x) (hD : x.due = tickU x) :
    Row wr g (mcells (N.set j (tickM x))) 52 := by
  rw [mset_n N j x h hx] at hR
  unfold tickM
  rw [← hA, ← hD]
  exact hR
end
/-- A new marking. -/
def NewM (M : List MarkD) (n : Nat) (w : World) (e : Ending) (w' : World) : Prop := ∃ g, e = .returned (.tuple #[.slice (some ⟨g, 0, none⟩) n n, .int .i64 0]) ∧ w.heap.size ≤ g ∧ Row w' g (mcells M) 52 ∧ Fr [] w w'
set_option maxHeartbeats 1000000 in
theorem tick_ok (f : FlatD) (a : Option Addr) (n c : Nat) (M : List MarkD) (w : World) (h : MarksAt w a n M) (hn : n ≤ 100000) (hs1 : slackI f.en M ≠ -1) (hs0 : slackI f.en M ≠ 0) :
    Calls Try.prog 31 #[f.val, .slice a n c] w (NewM (M.map tickM) n w) := by
  have hr := (Fr.refl [] w).alloc (.cells #[.slice f.ea f.en f.ec, .slice f.ta f.tn f.tc] 25)
  have C1 := slack_any f a n c M _ (h.fr hr) hn
  have HR := Lib.hid hr
  have HM := Lib.hid (h.fr hr)
  have HL := Lib.hid h.1
  have HNB := Lib.hid (fits_not (slack_fits hs1))
  have d1 : (slackI f.en M == -1) = false := by simpa using hs1
  have d0 : (slackI f.en M == 0) = false := by simpa using hs0
  clear h hr hs1 hs0
  generalize slackI f.en M = sl at C1 d1 d0
  unfold FlatD.val at C1 ⊢
  go_enter Try.func31, Try.ntmps31
  go_wp2_with fail
  refine C1.mono ?_
  rintro e w2 ⟨rfl, hF⟩
  have C2 := copied_any a n c M w2 (HM.out.fr hF) hn
  have F2 := Lib.hid (HR.out.trans hF (by simp))
  clear hF C1
  go_wp2_with fail
  refine C2.mono ?_
  rintro e w3 ⟨g, rfl, hg, hR3, hF3⟩
  have R3 := Lib.hid hR3
  have F3 := Lib.hid (F2.out.trans hF3 (by simp))
  have hgw : w.heap.size ≤ g := Nat.le_trans F2.out.size hg
  clear C2 hg hR3 hF3
  go_wp2_with fail
  go_loopg [20] n (fun k i wr => ∃ (j : Nat), k = n - j ∧ j ≤ n ∧ i = .int .i64 j ∧ Row wr g (mcells (upto tickM M j)) 52 ∧ Fr [g] w3 wr)
  case atStart => exact ⟨0, rfl, by omega, rfl, R3.out, Fr.refl _ _⟩
  case round =>
    obtain ⟨j, rfl, hj, rfl, hR, hF⟩ := hrel
    have R := Lib.hid hR
    have F := Lib.hid hF
    by_cases hjn : j < n
    · have hd : decide (j < n) = true := by rw [decide_eq_true_iff]; omega
      have hjl : j < M.length := by rw [HL.out]; exact hjn
      have hux := upto_at tickM M j hjl
      have hsu := upto_succ tickM M j hjl
      have hjl2 : j < (upto tickM M j).length := by rw [upto_length]; exact hjl
      have hnb := not_bad (HNB.out _ (getD_mem M j hjl))
      have x0 := hR.cell (j * 3 + 0)
      have x1 := hR.cell (j * 3 + 1)
      have x2 := hR.cell (j * 3 + 2)
      rw [mcells_at _ j 0 hjl2 (by omega), hux] at x0
      rw [mcells_at _ j 1 hjl2 (by omega), hux] at x1
      rw [mcells_at _ j 2 hjl2 (by omega), hux] at x2
      generalize M.getD j default = x at hux hsu hnb x0 x1 x2
      generalize upto tickM M j = N at hux hsu hjl2 R
      have y0 : wr.cell? ⟨g, j * 3, none⟩ = some (.bool x.inn) := x0
      have y1 : wr.cell? ⟨g, j * 3 + 1, none⟩ = some (.int .i64 x.age) := x1
      have y2 : wr.cell? ⟨g, j * 3 + 2, none⟩ = some (.int .i64 x.due) := x2
      have f1 : wr.frozen? ⟨g, j * 3 + 1, none⟩ = false := hR.frozen _
      have f2 : wr.frozen? ⟨g, j * 3 + 2, none⟩ = false := hR.frozen _
      have HSU := Lib.hid hsu
      have HUX := Lib.hid hux
      have HJ2 := Lib.hid hjl2
      obtain ⟨b1, b2, b3, b4⟩ := hnb
      clear hR hF x0 x1 x2 hsu hux hjl2 hjl
      by_cases ha : x.age ≥ 0
      · have da : decide (x.age ≥ 0) = true := by simpa using ha
        have ta : tickA x = (if x.age + 1 < 65536 then x.age + 1 else 65536) := by unfold tickA; rw [if_pos ha]
        have TA := Lib.hid ta
        clear ta
        cases hi : x.inn
        · rw [hi] at y0
          have tu : x.due = tickU x := by unfold tickU; rw [hi]; simp
          have TU := Lib.hid tu
          clear tu hi
          go_wp2_with fail
          all_goals
            go_roundg (n - (j + 1))
            case measure => omega
            case rel => exact ⟨j + 1, rfl, by omega, rfl, by rw [← HSU.out]; exact row_a R.out HJ2.out HUX.out (by rw [TA.out]; first | rfl | (split <;> omega)) TU.out, F.out.setCell (by simp) _⟩
        · rw [hi] at y0
          by_cases hp : x.due > 0
          · have dp : decide (x.due > 0) = true := by simpa using hp
            by_cases hm : x.due < 1048576
            · have dm : decide (x.due < 1048576) = true := by simpa using hm
              have tu : x.due - 1 = tickU x := by unfold tickU; rw [if_pos ⟨hi, hp, hm⟩]
              have TU := Lib.hid tu
              clear tu hi
              go_wp2_with fail
              all_goals
                go_roundg (n - (j + 1))
                case measure => omega
                case rel => exact ⟨j + 1, rfl, by omega, rfl, by rw [← HSU.out]; exact row_ad R.out HJ2.out HUX.out (by rw [TA.out]; first | rfl | (split <;> omega)) TU.out, (F.out.setCell (by simp) _).setCell (by simp) _⟩
            · have dm : decide (x.due < 1048576) = false := by simpa using hm
              have tu : x.due = tickU x := by unfold tickU; rw [if_neg (fun h => hm h.2.2)]
              have TU := Lib.hid tu
              clear tu hi
              go_wp2_with fail
              all_goals
                go_roundg (n - (j + 1))
                case measure => omega
                case rel => exact ⟨j + 1, rfl, by omega, rfl, by rw [← HSU.out]; exact row_a R.out HJ2.out HUX.out (by rw [TA.out]; first | rfl | (split <;> omega)) TU.out, F.out.setCell (by simp) _⟩
          · have dp : decide (x.due > 0) = false := by simpa using hp
            have tu : x.due = tickU x := by unfold tickU; rw [if_neg (fun h => hp h.2.1)]
            have TU := Lib.hid tu
            clear tu hi
            go_wp2_with fail
            all_goals
              go_roundg (n - (j + 1))
              case measure => omega
              case rel => exact ⟨j + 1, rfl, by omega, rfl, by rw [← HSU.out]; exact row_a R.out HJ2.out HUX.out (by rw [TA.out]; first | rfl | (split <;> omega)) TU.out, F.out.setCell (by simp) _⟩
      · have da : decide (x.age ≥ 0) = false := by simpa using ha
        have ta : tickA x = x.age := by unfold tickA; rw [if_neg ha]
        have TA := Lib.hid ta
        clear ta
        cases hi : x.inn
        · rw [hi] at y0
          have tu : x.due = tickU x := by unfold tickU; rw [hi]; simp
          have TU := Lib.hid tu
          clear tu hi
          go_wp2_with fail
          all_goals
            go_roundg (n - (j + 1))
            case measure => omega
            case rel => exact ⟨j + 1, rfl, by omega, rfl, by rw [← HSU.out]; exact row_n R.out HJ2.out HUX.out TA.out.symm TU.out, F.out⟩
        · rw [hi] at y0
          by_cases hp : x.due > 0
          · have dp : decide (x.due > 0) = true := by simpa using hp
            by_cases hm : x.due < 1048576
            · have dm : decide (x.due < 1048576) = true := by simpa using hm
              have tu : x.due - 1 = tickU x := by unfold tickU; rw [if_pos ⟨hi, hp, hm⟩]
              have TU := Lib.hid tu
              clear tu hi
              go_wp2_with fail
              all_goals
                go_roundg (n - (j + 1))
                case measure => omega
                case rel => exact ⟨j + 1, rfl, by omega, rfl, by rw [← HSU.out]; exact row_d R.out HJ2.out HUX.out TA.out.symm TU.out, F.out.setCell (by simp) _⟩
            · have dm : decide (x.due < 1048576) = false := by simpa using hm
              have tu : x.due = tickU x := by unfold tickU; rw [if_neg (fun h => hm h.2.2)]
              have TU := Lib.hid tu
              clear tu hi
              go_wp2_with fail
              all_goals
                go_roundg (n - (j + 1))
                case measure => omega
                case rel => exact ⟨j + 1, rfl, by omega, rfl, by rw [← HSU.out]; exact row_n R.out HJ2.out HUX.out TA.out.symm TU.out, F.out⟩
          · have dp : decide (x.due > 0) = false := by simpa using hp
            have tu : x.due = tickU x := by unfold tickU; rw [if_neg (fun h => hp h.2.1)]
            have TU := Lib.hid tu
            clear tu hi
            go_wp2_with fail
            all_goals
              go_roundg (n - (j + 1))
              case measure => omega
              case rel => exact ⟨j + 1, rfl, by omega, rfl, by rw [← HSU.out]; exact row_n R.out HJ2.out HUX.out TA.out.symm TU.out, F.out⟩
    · have hd : decide (j < n) = false := by rw [decide_eq_false_iff_not]; omega
      have hfull := upto_full tickM M j (by rw [HL.out]; omega)
      rw [hfull] at R
      clear hfull hR hF
      go_wp2_with fail
      go_ret2
      exact ⟨g, rfl, hgw, R.out, F3.out.trans F.out (by simp; omega)⟩
end Go.Proofs.Ytclkahggfdnpgaa
