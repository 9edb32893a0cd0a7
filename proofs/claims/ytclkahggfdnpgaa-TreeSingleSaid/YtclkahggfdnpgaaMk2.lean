/- Enabled. -/
import Derived.Test.YtclkahggfdnpgaaMk1
set_option linter.unusedVariables false
set_option linter.unusedSimpArgs false
namespace Go.Proofs.Ytclkahggfdnpgaa
open Go.RowKit
def TieD.between (t : TieD) (k : Nat) : Bool := decide (0 ≤ t.src ∧ t.src < k ∧ 0 ≤ t.dst ∧ t.dst < k)
theorem ties_any (f : FlatD) (t : TieD) (w : World) : Calls Try.prog 65 #[f.val, t.val] w fun e w' => e = .returned (.bool (t.between f.en)) ∧ Fr [] w w' := by
  have hr := ((Fr.refl [] w).alloc (.cells #[.slice f.ea f.en f.ec, .slice f.ta f.tn f.tc] 25)).alloc (.cells #[.int .i64 t.kind, .int .i64 t.src, .int .i64 t.dst, .int .i64 t.time] 57)
  have HR := Lib.hid hr
  clear hr
  unfold FlatD.val TieD.val
  by_cases hb : 0 ≤ t.src ∧ t.src < f.en ∧ 0 ≤ t.dst ∧ t.dst < f.en
  · have hB : t.between f.en = true := by unfold TieD.between; exact decide_eq_true hb
    rw [hB]
    obtain ⟨h1, h2, h3, h4⟩ := hb
    clear hB
    go_enter Try.func65, Try.ntmps65
    go_wp2_with fail
    all_goals
      go_ret
      exact ⟨rfl, HR.out⟩
  · have hB : t.between f.en = false := by unfold TieD.between; exact decide_eq_false hb
    rw [hB]
    clear hB
    by_cases h1 : t.src < 0
    · clear hb
      go_enter Try.func65, Try.ntmps65
      go_wp2_with fail
      all_goals
        go_ret
        exact ⟨rfl, HR.out⟩
    · by_cases h2 : t.dst < 0
      · clear hb
        go_enter Try.func65, Try.ntmps65
        go_wp2_with fail
        all_goals
          go_ret
          exact ⟨rfl, HR.out⟩
      · have h3 : (f.en : Int) ≤ t.src ∨ (f.en : Int) ≤ t.dst := by omega
        clear hb
        rcases h3 with h3 | h3
        all_goals
          go_enter Try.func65, Try.ntmps65
          go_wp2_with fail
          all_goals
            go_ret
            first | exact ⟨rfl, HR.out⟩ | exact ⟨ret_bool (by rw [decide_eq_false_iff_not]; omega), HR.out⟩
/-- Does a tie let what it leads to be done, where its first event's mark is x? -/
def TieD.free (t : TieD) (x : MarkD) : Bool := !x.inn || (if t.kind = 1 then decide (x.age ≥ 0) && decide (x.age ≥ t.time) else if t.kind = 5 then decide (x.due < 0) else true)
theorem free_any (a : Option Addr) (n c : Nat) (M : List MarkD) (t : TieD) (w : World) (h : MarksAt w a n M) (h0 : 0 ≤ t.src) (h1 : t.src < n) :
    Calls Try.prog 66 #[.slice a n c, t.val] w fun e w' => e = .returned (.bool (t.free (M.getD t.src.toNat default))) ∧ Fr [] w w' := by
  obtain ⟨k, hk⟩ := Int.eq_ofNat_of_zero_le h0
  have hkn : k < n := by omega
  have hr := (Fr.refl [] w).alloc (.cells #[.int .i64 t.kind, .int .i64 t.src, .int .i64 t.dst, .int .i64 t.time] 57)
  obtain ⟨b1, o1, rfl, hb1, hc1⟩ := (h.2.fr hr).at_ (by omega)
  have hc := hc1 k hkn
  rw [show t.src.toNat = k by omega]
  generalize M.getD k default = x at hc
  have hc' : ∀ k' v, ([.bool x.inn, .int .i64 x.age, .int .i64 x.due] : List Value)[k']? = some v → (w.alloc (.cells #[.int .i64 t.kind, .int .i64 t.src, .int .i64 t.dst, .int .i64 t.time] 57)).cell? ⟨b1, o1 + k * 3 + k', none⟩ = some v := hc
  have HC := Lib.hid hc'
  have HR := Lib.hid hr
  have hd0 : t.src.toNat = k := by omega
  clear hc hc' hc1 hr h
  obtain ⟨kind, src, dst, time⟩ := t
  simp only at hk h0 h1 HC HR hd0 ⊢
  subst hk
  unfold TieD.val
  clear hd0
  go_enter Try.func66, Try.ntmps66
  go_wp2_with (first | ((with_reducible refine wpList_load_at rfl 52 (.tmp 9) rfl agg52 3 size52 b1 (o1 + k * 3) [.bool x.inn, .int .i64 x.age, .int .i64 x.due] rfl HC.out ?_ ?_); exact rfl) | ((with_reducible refine wpList_var_agg rfl rfl 52 (.tmp 5) (.tmp 10) rfl rfl 3 zero52 [.bool x.inn, .int .i64 x.age, .int .i64 x.due] rfl ?_ ?_ ?_ ?_); (intro u hu; simp at hu; rcases hu with rfl | rfl | rfl <;> rfl); exact rfl; exact rfl))
  intro w2 hr2 hs2 hf2
  have ht2 := (Row.new w [.int .i64 kind, .int .i64 k, .int .i64 dst, .int .i64 time] 57).fr hf2 (by simp)
  have F2 := Lib.hid (HR.out.trans hf2 (by simp))
  have p0 : w2.cell? ⟨w.heap.size, 0, none⟩ = some (.int .i64 kind) := ht2.cell 0
  have p3 : w2.cell? ⟨w.heap.size, 3, none⟩ = some (.int .i64 time) := ht2.cell 3
  have q0 : w2.cell? ⟨w.heap.size + 1, 0, none⟩ = some (.bool x.inn) := hr2.cell 0
  have q1 : w2.cell? ⟨w.heap.size + 1, 1, none⟩ = some (.int .i64 x.age) := hr2.cell 1
  have q2 : w2.cell? ⟨w.heap.size + 1, 2, none⟩ = some (.int .i64 x.due) := hr2.cell 2
  clear hr2 hs2 hf2 ht2 hb1 HC
  cases hi : x.inn
  · rw [hi] at q0
    have HI := Lib.hid hi
    clear hi
    go_wp2_with fail
    go_ret
    exact ⟨ret_bool (by simp [TieD.free, HI.out]), F2.out⟩
  · rw [hi] at q0
    have HI := Lib.hid hi
    clear hi
    by_cases k1 : kind = 1
    · have e1 : (kind == 1) = true := by simpa using k1
      have K1 := Lib.hid k1
      clear k1
      by_cases ha : x.age ≥ 0
      · have d1 : decide (x.age ≥ 0) = true := by simpa using ha
        by_cases hb : x.age ≥ time
        · have d2 : decide (x.age ≥ time) = true := by simpa using hb
          go_wp2_with fail
          go_ret
          exact ⟨ret_bool (by simp [TieD.free, HI.out, K1.out]; omega), F2.out⟩
        · have d2 : decide (x.age ≥ time) = false := by simpa using hb
          go_wp2_with fail
          go_ret
          exact ⟨ret_bool (by simp [TieD.free, HI.out, K1.out]; omega), F2.out⟩
      · have d1 : decide (x.age ≥ 0) = false := by simpa using ha
        go_wp2_with fail
        go_ret
        exact ⟨ret_bool (by simp [TieD.free, HI.out, K1.out]; omega), F2.out⟩
    · have e1 : (kind == 1) = false := by simpa using k1
      have K1 := Lib.hid k1
      clear k1
      by_cases k5 : kind = 5
      · have e5 : (kind == 5) = true := by simpa using k5
        have K5 := Lib.hid k5
        clear k5
        by_cases hb : x.due < 0
        · have d2 : decide (x.due < 0) = true := by simpa using hb
          go_wp2_with fail
          go_ret
          exact ⟨ret_bool (by simp [TieD.free, HI.out, K5.out]; omega), F2.out⟩
        · have d2 : decide (x.due < 0) = false := by simpa using hb
          go_wp2_with fail
          go_ret
          exact ⟨ret_bool (by simp [TieD.free, HI.out, K5.out]; omega), F2.out⟩
      · have e5 : (kind == 5) = false := by simpa using k5
        have K5 := Lib.hid k5
        clear k5
        go_wp2_with fail
        go_ret
        exact ⟨ret_bool (by simp [TieD.free, HI.out, K1.out, K5.out]), F2.out⟩
/-- Does a tie bar event at? -/
def TieD.bars (t : TieD) (k : Nat) (at' : Int) (M : List MarkD) : Bool := t.between k && decide (t.dst = at') && !t.free (M.getD t.src.toNat default)
/-- What Enabled's inner function has at hand. -/
structure Caught (w : World) (bf ba bm : Nat) (f : FlatD) (at' : Int) (a : Option Addr) (n c : Nat) : Prop where
  f0 : w.cell? ⟨bf, 0, none⟩ = some (.slice f.ea f.en f.ec)
  f1 : w.cell? ⟨bf, 1, none⟩ = some (.slice f.ta f.tn f.tc)
  a0 : w.cell? ⟨ba, 0, none⟩ = some (.int .i64 at')
  m0 : w.cell? ⟨bm, 0, none⟩ = some (.slice a n c)
theorem cell_fr {w w' : World} {p : Addr} {v : Value} (h : w.cell? p = some v) (f : Fr [] w w') : w'.cell? p = some v := by
  rw [World.cell?_of_block (f.block p.block (World.block_lt_of_cell? w p h) (by simp))]; exact h
theorem Caught.fr {w w' : World} {bf ba bm : Nat} {f : FlatD} {at' : Int} {a : Option Addr} {n c : Nat} (h : Caught w bf ba bm f at' a n c) (g : Fr [] w w') : Caught w' bf ba bm f at' a n c :=
  ⟨cell_fr h.f0 g, cell_fr h.f1 g, cell_fr h.a0 g, cell_fr h.m0 g⟩
theorem barf_any (bf ba bm : Nat) (f : FlatD) (at' : Int) (a : Option Addr) (n c : Nat) (M : List MarkD) (t : TieD) (w : World) (hc : Caught w bf ba bm f at' a n c) (h : MarksAt w a n M) (hen : f.en = n) :
    Calls Try.prog 64 #[t.val, .pointer (some ⟨bf, 0, none⟩), .pointer (some ⟨ba, 0, none⟩), .pointer (some ⟨bm, 0, none⟩)] w fun e w' => e = .returned (.bool (t.bars f.en at' M)) ∧ Fr [] w w' := by
  have hr := (Fr.refl [] w).alloc (.cells #[.int .i64 t.kind, .int .i64 t.src, .int .i64 t.dst, .int .i64 t.time] 57)
  have hc1 := hc.fr hr
  have C1 := ties_any f t (w.alloc (.cells #[.int .i64 t.kind, .int .i64 t.src, .int .i64 t.dst, .int .i64 t.time] 57))
  have hM := h.fr hr
  have HR := Lib.hid hr
  have HM := Lib.hid hM
  have HC := Lib.hid hc1
  obtain ⟨f0, f1, a0, m0⟩ := hc1
  have ht := Row.new w [.int .i64 t.kind, .int .i64 t.src, .int .i64 t.dst, .int .i64 t.time] 57
  have HT := Lib.hid ht
  have HEN := Lib.hid hen
  clear hc h hr hM ht hen
  by_cases hb : t.between f.en = true
  · rw [hb] at C1
    have hbb : 0 ≤ t.src ∧ t.src < f.en ∧ 0 ≤ t.dst ∧ t.dst < f.en := by unfold TieD.between at hb; exact of_decide_eq_true hb
    have HB := Lib.hid hb
    have HBB := Lib.hid hbb
    clear hb hbb
    by_cases hd : t.dst = at'
    · have ed : (t.dst == at') = true := by simpa using hd
      have HD := Lib.hid hd
      clear hd
      unfold TieD.val FlatD.val at C1
      unfold TieD.val
      go_enter Try.func64, Try.ntmps64
      go_wp2_with fail
      refine C1.mono ?_
      rintro e w2 ⟨rfl, hF⟩
      have c0 := HC.out.fr hF
      obtain ⟨g0, g1, ga, gm⟩ := c0
      have t0 : w2.cell? ⟨w.heap.size, 0, none⟩ = some (.int .i64 t.kind) := (HT.out.fr hF (by simp)).cell 0
      have t1 : w2.cell? ⟨w.heap.size, 1, none⟩ = some (.int .i64 t.src) := (HT.out.fr hF (by simp)).cell 1
      have t2 : w2.cell? ⟨w.heap.size, 2, none⟩ = some (.int .i64 t.dst) := (HT.out.fr hF (by simp)).cell 2
      have t3 : w2.cell? ⟨w.heap.size, 3, none⟩ = some (.int .i64 t.time) := (HT.out.fr hF (by simp)).cell 3
      have F2 := Lib.hid (HR.out.trans hF (by simp))
      have C2 := free_any a n c M t w2 (HM.out.fr hF) HBB.out.1 (by have := HEN.out; have := HBB.out; omega)
      generalize hfree : t.free (M.getD t.src.toNat default) = fr at C2
      have HFR := Lib.hid hfree
      unfold TieD.val at C2
      clear hF C1 hfree
      go_wp2_with fail
      refine C2.mono ?_
      rintro e w3 ⟨rfl, hF⟩
      go_wp2_with fail
      go_ret
      exact ⟨ret_bool (by unfold TieD.bars; rw [HB.out, HFR.out, HD.out]; simp), F2.out.trans hF (by simp)⟩
    · have ed : (t.dst == at') = false := by simpa using hd
      have HD := Lib.hid hd
      clear hd
      unfold TieD.val FlatD.val at C1
      unfold TieD.val
      go_enter Try.func64, Try.ntmps64
      go_wp2_with fail
      refine C1.mono ?_
      rintro e w2 ⟨rfl, hF⟩
      have c0 := HC.out.fr hF
      obtain ⟨g0, g1, ga, gm⟩ := c0
      have t2 : w2.cell? ⟨w.heap.size, 2, none⟩ = some (.int .i64 t.dst) := (HT.out.fr hF (by simp)).cell 2
      have F2 := Lib.hid (HR.out.trans hF (by simp))
      clear hF C1
      go_wp2_with fail
      go_ret
      exact ⟨ret_bool (by unfold TieD.bars; rw [HB.out]; simp [HD.out]), F2.out⟩
  · have hb : t.between f.en = false := by simpa using hb
    rw [hb] at C1
    have HB := Lib.hid hb
    clear hb
    unfold TieD.val FlatD.val at C1
    unfold TieD.val
    go_enter Try.func64, Try.ntmps64
    go_wp2_with fail
    refine C1.mono ?_
    rintro e w2 ⟨rfl, hF⟩
    go_wp2_with fail
    go_ret
    exact ⟨ret_bool (by unfold TieD.bars; rw [HB.out]; simp), HR.out.trans hF (by simp)⟩
end Go.Proofs.Ytclkahggfdnpgaa
