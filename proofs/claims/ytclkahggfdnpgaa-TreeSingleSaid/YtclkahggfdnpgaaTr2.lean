/- The tree: an instance by its number. -/
import Derived.Test.YtclkahggfdnpgaaTr1
set_option linter.unusedVariables false
set_option linter.unusedSimpArgs false
namespace Go.Proofs.Ytclkahggfdnpgaa
open Go.RowKit
theorem TreeAt.vform {w : World} {tb hi : Nat} {T : TreeD} (h : TreeAt w tb hi T) : ∃ a c, T.v = .slice a T.L.length c ∧ T.L.length ≤ c ∧ ∀ i, i < T.L.length → ∃ g, a = some ⟨g, 0, none⟩ ∧ w.cell? ⟨g, i, none⟩ = some (T.L.getD i default).ptr ∧ hi ≤ g ∧ g < w.heap.size := by
  by_cases h0 : 0 < T.L.length
  · obtain ⟨g, c, hv, hc, _⟩ := h.ptr h0
    refine ⟨_, c, hv, hc, fun i hi => ?_⟩
    obtain ⟨g', c', hv', _, h3, h4, h5⟩ := h.ptr hi
    have e : g' = g := by rw [hv'] at hv; injection hv with h1; injection h1 with h1; injection h1
    subst e
    exact ⟨_, rfl, h3, h4, h5⟩
  · rcases h.row.2 with ⟨h1, h2⟩ | ⟨g, cap, cur, hv, hb, hg, hn, _⟩
    · exact ⟨none, 0, by rw [h2]; exact h1, by omega, fun i hi => absurd hi (by omega)⟩
    · exact ⟨_, cap, hv, hn, fun i hi => absurd hi (by omega)⟩
theorem ofc_any (bx : Nat) (id : Int) (x : InsD) (w : World) (hb : w.cell? ⟨bx, 0, none⟩ = some (.int .i64 id)) (hx : Row w x.b x.cells 130) :
    Calls Try.prog 88 #[x.ptr, .pointer (some ⟨bx, 0, none⟩)] w fun e w' => e = .returned (.bool (decide (x.id = id))) ∧ Fr [] w w' := by
  have hc : w.cell? ⟨x.b, 0, none⟩ = some (.int .i64 x.id) := hx.cell 0
  unfold InsD.ptr
  generalize hg : x.b = g at hc
  generalize hi : x.id = i at hc
  clear hg hi hx
  go_enter Try.func88, Try.ntmps88
  go_wp2_with fail
  go_quiet (fail)
  go_wp2_with fail
  go_ret
  exact ⟨rfl, (Fr.refl _ _).drewN _⟩
/-- Where an instance lies. -/
def IdxOf (L : List InsD) (id : Int) (r : Int) : Prop := (r = -1 ∧ ∀ j, j < L.length → (L.getD j default).id ≠ id) ∨ ∃ j : Nat, r = j ∧ j < L.length ∧ (L.getD j default).id = id ∧ ∀ k, k < j → (L.getD k default).id ≠ id
theorem index_of (tb hi bx : Nat) (T : TreeD) (id : Int) (w : World) (h : TreeAt w tb hi T) (hb : w.cell? ⟨bx, 0, none⟩ = some (.int .i64 id)) :
    Calls Try.prog 87 #[T.v, .func (.func 88) #[] #[.pointer (some ⟨bx, 0, none⟩)]] w fun e w' => ∃ r : Int, e = .returned (.int .i64 r) ∧ IdxOf T.L id r ∧ Fr [] w w' := by
  obtain ⟨a, c, hv, hlc, hp⟩ := h.vform
  have HH := Lib.hid h
  have HB := Lib.hid hb
  have hfew := h.few
  generalize hn : T.L.length = n at hv hlc hp hfew
  have HN := Lib.hid hn
  have HP := Lib.hid hp
  rw [hv]
  clear h hb hv hp hn
  go_enter Try.func87, Try.ntmps87
  go_wp2_with fail
  go_loopg [8] n (fun k i wr => ∃ j : Nat, k = n - j ∧ j ≤ n ∧ i = .int .i64 j ∧ (∀ q, q < j → (T.L.getD q default).id ≠ id) ∧ Fr [] w wr)
  case atStart => exact ⟨0, rfl, by omega, rfl, fun q hq => absurd hq (by omega), Fr.refl _ _⟩
  case round =>
    obtain ⟨j, rfl, hj, rfl, hp, hF⟩ := hrel
    have P := Lib.hid hp
    have F := Lib.hid hF
    clear hp hF
    by_cases hjn : j < n
    · have hd : decide (j < n) = true := by rw [decide_eq_true_iff]; omega
      obtain ⟨g, rfl, hc0, _, hg⟩ := HP.out j hjn
      have hm := getD_memD T.L j (by rw [HN.out]; exact hjn)
      have hc : wr.cell? ⟨g, j, none⟩ = some (T.L.getD j default).ptr := by rw [World.cell?_of_block (F.out.block g hg (by simp))]; exact hc0
      have hb2 : wr.cell? ⟨bx, 0, none⟩ = some (.int .i64 id) := by rw [World.cell?_of_block (F.out.block bx (World.block_lt_of_cell? w _ HB.out) (by simp))]; exact HB.out
      have C1 := ofc_any bx id (T.L.getD j default) wr hb2 ((HH.out.ins _ hm).fr F.out (by simp))
      obtain ⟨x, hx⟩ : ∃ x, T.L.getD j default = x := ⟨_, rfl⟩
      rw [hx] at hc C1
      unfold InsD.ptr at hc C1
      have HX := Lib.hid hx
      clear hc0 hm hb2 hx
      go_wp2_with fail
      refine C1.mono ?_
      rintro e w2 ⟨rfl, hF2⟩
      have F2 := Lib.hid (F.out.trans hF2 (by simp))
      clear hF2 C1
      by_cases hx : x.id = id
      · rw [decide_eq_true hx]
        have HI := Lib.hid hx
        clear hx
        go_wp2_with fail
        go_ret
        exact ⟨j, rfl, .inr ⟨j, rfl, by rw [HN.out]; exact hjn, by rw [HX.out]; exact HI.out, P.out⟩, F2.out⟩
      · rw [decide_eq_false hx]
        have HI := Lib.hid hx
        clear hx
        go_wp2_with fail
        go_roundg (n - (j + 1))
        case measure => omega
        case rel =>
          refine ⟨j + 1, rfl, by omega, rfl, fun q hq => ?_, F2.out⟩
          by_cases hqj : q = j
          · rw [hqj, HX.out]; exact HI.out
          · exact P.out q (by omega)
    · have hd : decide (j < n) = false := by rw [decide_eq_false_iff_not]; omega
      go_wp2_with fail
      go_ret
      exact ⟨-1, rfl, .inl ⟨rfl, fun q hq => P.out q (by rw [HN.out] at hq; omega)⟩, F.out⟩
/-- The instance of a number: none, or where it lies. -/
def OfAt (L : List InsD) (id : Int) (v : Value) : Prop := (v = .pointer none ∧ ∀ x ∈ L, x.id ≠ id) ∨ ∃ j : Nat, j < L.length ∧ v = (L.getD j default).ptr ∧ (L.getD j default).id = id
theorem of_any (tb hi : Nat) (T : TreeD) (id : Int) (w : World) (h : TreeAt w tb hi T) :
    Calls Try.prog 76 #[.pointer (some ⟨tb, 0, none⟩), .int .i64 id] w fun e w' => ∃ v, e = .returned v ∧ OfAt T.L id v ∧ Fr [] w w' := by
  have hr := (Fr.refl [] w).alloc (.cells #[.int .i64 id] 3)
  have h1 := h.fr hr
  have hb : (w.alloc (.cells #[.int .i64 id] 3)).cell? ⟨w.heap.size, 0, none⟩ = some (.int .i64 id) := (Row.new w [.int .i64 id] 3).cell 0
  have C1 := index_of tb hi w.heap.size T id _ h1 hb
  have hc2 : (w.alloc (.cells #[.int .i64 id] 3)).cell? ⟨tb, 2, none⟩ = some T.v := h1.head.cell 2
  have HR := Lib.hid hr
  have HH := Lib.hid h
  obtain ⟨a, c, hv, hlc, _⟩ := h.vform
  have hfew := h.few
  rw [hv] at C1 hc2
  have HV := Lib.hid hv
  generalize hn : T.L.length = n at C1 hc2 hlc hfew
  have HN := Lib.hid hn
  clear h h1 hr hb hv hn
  go_enter Try.func76, Try.ntmps76
  go_wp2_with fail
  refine C1.mono ?_
  rintro e w2 ⟨r, rfl, hI, hF⟩
  have F := Lib.hid (HR.out.trans hF (by simp))
  have hc3 : w2.cell? ⟨tb, 2, none⟩ = some (.slice a n c) := by rw [World.cell?_of_block (hF.block tb (Nat.lt_of_lt_of_le HH.out.head.lt HR.out.size) (by simp))]; exact hc2
  rcases hI with ⟨rfl, hI⟩ | ⟨j, rfl, hj, hI, -⟩
  · have HI := Lib.hid hI
    clear hI hF hc2 C1
    go_wp2_with fail
    go_ret
    refine ⟨_, rfl, .inl ⟨rfl, fun x hx => ?_⟩, F.out⟩
    obtain ⟨q, hq, rfl⟩ := List.getElem_of_mem hx
    have := HI.out q hq
    rwa [List.getD_eq_getElem?_getD, List.getElem?_eq_getElem hq] at this
  · have HJ := Lib.hid hj
    have HI := Lib.hid hI
    obtain ⟨a', c', hv', _, hp⟩ := (HH.out.fr F.out).vform
    obtain ⟨g, ha, hc, _, hg⟩ := hp j hj
    have e : a = some ⟨g, 0, none⟩ := by rw [HV.out] at hv'; injection hv' with h1; rw [h1, ha]
    subst e
    have hjn : j < n := by rw [← HN.out]; exact hj
    clear hj hI hF hc2 C1 hv' hp ha
    obtain ⟨x, hx⟩ : ∃ x, T.L.getD j default = x := ⟨_, rfl⟩
    rw [hx] at hc
    have HX := Lib.hid hx
    unfold InsD.ptr at hc
    clear hx
    go_wp2_with fail
    go_ret
    exact ⟨_, rfl, .inr ⟨j, HJ.out, by rw [HX.out]; rfl, HI.out⟩, F.out⟩
end Go.Proofs.Ytclkahggfdnpgaa
