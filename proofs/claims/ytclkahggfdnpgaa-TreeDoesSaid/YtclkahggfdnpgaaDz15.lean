/- Parts of the proof: Mk18, Tr18, TrO, Tr19, Tr20, TrT, TrA, TrH. (Merged by pack.py.) -/
import Derived.Test.YtclkahggfdnpgaaDz1
import Derived.ProofKit
import Derived.Deep.Slices
import Derived.Deep.Fields
import Derived.ChangeSame
import Derived.Lib.SmallJoins
import Derived.Test.YtclkahggfdnpgaaDz14
import Derived.Deep.RegionHeldLaw
set_option linter.unusedVariables false
set_option linter.unusedSimpArgs false
namespace Go.Proofs.Ytclkahggfdnpgaa
open Go.ChangeShapes Go.WideShapes Go.Deep Go.RowKit
theorem addr_plain {w : World} {a : Addr} {v : Value} (h : w.cell? a = some v) : a = ⟨a.block, a.off, none⟩ := by
  unfold World.cell? at h
  split at h
  · split at h
    · cases h
    · rename_i hs
      cases a with
      | mk b o s => cases s <;> simp_all
  · cases h
section
variable {H : Type} {enc : TypeId × Value → H} {P : Program} {w : World} {spare : Nat → Bool} {held : Bool}
/-- Any slice, its elements' cells and readings. -/
theorem open_rows {t e k len cap : Nat} {a : Option Addr} {d : DataW H} {p : List MemPlace} (ht : P.underlying t = some (.slice e)) (hk : P.cellsOf e = k) (hk0 : 0 < k) (h : DataW.Trod enc P w 0 spare held t (.slice a len cap) d p) :
    len ≤ maxLen ∧ ∃ C : Nat → List Value, RowsAt w a len k C ∧ ∀ i, i < len → (C i).length = k ∧ ∃ n x, DataW.trod enc P w 0 spare held n e (C i) = some x := by
  obtain ⟨fuel, hf⟩ := h
  rcases open_slice ht hf with ⟨hcs, _⟩ | ⟨ad, l, c, m, n, D, Pl, hcs, _, hl, hm, hmm, _, hi⟩
  · simp [Value.cells] at hcs
    obtain ⟨rfl, rfl, rfl⟩ := hcs
    exact ⟨by unfold maxLen; omega, fun _ => [], ⟨fun h => absurd h (by omega)⟩, fun i hi => absurd hi (by omega)⟩
  · simp [Value.cells] at hcs
    obtain ⟨rfl, rfl, rfl⟩ := hcs
    have hlm : len ≤ m := by rw [hmm]; split <;> omega
    obtain ⟨C, hC⟩ := choose_lt (n := len) (p := fun i cs' => w.cells? 0 (ad.add (i * P.cellsOf e)) (P.cellsOf e) = some cs' ∧ DataW.trod enc P w 0 spare held n e cs' = some (D i, Pl i)) (fun i h => hi i (by omega))
    have key : ∀ i, i < len → (C i).length = k ∧ ∀ j v, (C i)[j]? = some v → w.cell? (ad.add (i * k + j)) = some v := by
      intro i h
      obtain ⟨h1, h2⟩ := hC i h
      rw [hk] at h1
      obtain ⟨_, hcl, hat⟩ := World.cells?_some h1
      refine ⟨hcl, fun j v hv => ?_⟩
      have hj : j < k := by rw [← hcl]; exact (List.getElem?_eq_some_iff.1 hv).1
      rw [← add_add, hat j hj, hv]
    refine ⟨by omega, C, ⟨fun h0 => ?_⟩, fun i h => ⟨(key i h).1, n, _, (hC i h).2⟩⟩
    have k0 := key 0 h0
    have hc0 : ∃ v, w.cell? ad = some v := by
      have hv : (C 0)[0]? = some ((C 0)[0]'(by omega)) := List.getElem?_eq_getElem (by omega)
      have := k0.2 0 _ hv
      exact ⟨_, by simpa [Addr.add] using this⟩
    obtain ⟨v, hv⟩ := hc0
    have hpl := addr_plain hv
    refine ⟨ad.block, ad.off, by rw [← hpl], block_lt_of_cell hv, fun i h j v hj => ?_⟩
    have := (key i h).2 j v hj
    rw [hpl, Addr_add, ← Nat.add_assoc] at this
    exact this
/-- A slice of structs: a list of them. -/
theorem open_list {α : Type} [Inhabited α] {t e k len cap : Nat} {a : Option Addr} {d : DataW H} {p : List MemPlace} (cells : α → List Value) (ht : P.underlying t = some (.slice e)) (hk : P.cellsOf e = k) (hk0 : 0 < k)
    (hel : ∀ (cs : List Value) n x, cs.length = k → DataW.trod enc P w 0 spare held n e cs = some x → ∃ y : α, cs = cells y) (h : DataW.Trod enc P w 0 spare held t (.slice a len cap) d p) :
    ∃ L : List α, L.length = len ∧ RowsAt w a len k (fun i => cells (L.getD i default)) := by
  obtain ⟨_, C, hC, hd⟩ := open_rows ht hk hk0 h
  have hL : ∀ i, i < len → ∃ x : α, C i = cells x := fun i hi => by
    obtain ⟨hl, n, x, hx⟩ := hd i hi
    exact hel _ n x hl hx
  obtain ⟨L, hL⟩ := choose_lt hL
  refine ⟨(List.range len).map L, by simp, ⟨fun h0 => ?_⟩⟩
  obtain ⟨b, o, rfl, hb, hh⟩ := hC.at_ h0
  refine ⟨b, o, rfl, hb, fun i hi j v hj => hh i hi j v ?_⟩
  have e1 : ((List.range len).map L).getD i default = L i := by
    rw [List.getD_eq_getElem?_getD, List.getElem?_map, List.getElem?_range hi]
    rfl
  have hj' : (cells (((List.range len).map L).getD i default))[j]? = some v := hj
  rw [e1, ← hL i hi] at hj'
  exact hj'
/-- A struct of one-cell fields: each field's cell and its reading. -/
theorem trod_fields {t fuel : Nat} {fs : Array Field} {cs : List Value} {x : DataW H × List MemPlace} (ht : P.underlying t = some (.struct fs)) (hone : oneCellFields P fs = true) (hC : P.cellsOf t = fs.size)
    (h : DataW.trod enc P w 0 spare held fuel t cs = some x) : cs.length = fs.size ∧ ∀ (j : Nat) (f : Field), fs[j]? = some f → ∃ v n y, cs[j]? = some v ∧ DataW.trod enc P w 0 spare held n f.type [v] = some y := by
  obtain ⟨xs, n', _, _, hcl, hxl, hf⟩ := DataW.trod_struct ht h
  rw [hC] at hcl
  refine ⟨hcl, fun j f hj => ?_⟩
  obtain ⟨ho, hk⟩ := hone_of hone j f hj
  have hjl : j < fs.size := (Array.getElem?_eq_some_iff.1 hj).1
  have h1 := hf j f hj
  rw [ho, hk] at h1
  have hone' : (cs.drop j).take 1 = [cs[j]'(by omega)] := by
    rw [List.drop_eq_getElem_cons (by omega)]
    rfl
  rw [hone'] at h1
  have hys : xs[j]? = some (xs[j]'(by omega)) := List.getElem?_eq_getElem (by omega)
  exact ⟨_, n', _, List.getElem?_eq_getElem (by omega), h1.trans hys⟩
theorem field_int {t n : Nat} {v : Value} {y : DataW H × List MemPlace} {k : IntKind} (ht : P.underlying t = some (.int k)) (h : DataW.trod enc P w 0 spare held n t [v] = some y) : ∃ m, v = .int k m ∧ (Lit.int k m).wf = true := by
  obtain ⟨m, hm, _, hw⟩ := DataW.trod_int ht h
  exact ⟨m, by simpa using hm, hw⟩
theorem field_bool {t n : Nat} {v : Value} {y : DataW H × List MemPlace} (ht : P.underlying t = some .bool) (h : DataW.trod enc P w 0 spare held n t [v] = some y) : ∃ m, v = .bool m := by
  obtain ⟨m, hm, _⟩ := DataW.trod_bool ht h
  exact ⟨m, by simpa using hm⟩
theorem field_string {t n : Nat} {v : Value} {y : DataW H × List MemPlace} (ht : P.underlying t = some .string) (h : DataW.trod enc P w 0 spare held n t [v] = some y) : ∃ m : ByteArray, v = .string m ∧ m.size ≤ maxLen := by
  obtain ⟨m, hm, _, hw⟩ := DataW.trod_string ht h
  exact ⟨m, by simpa using hm, hw⟩
theorem field_slice {t e n : Nat} {v : Value} {y : DataW H × List MemPlace} (ht : P.underlying t = some (.slice e)) (h : DataW.trod enc P w 0 spare held n t [v] = some y) : ∃ a len cap, v = .slice a len cap := by
  rcases open_slice ht h with ⟨hcs, _⟩ | ⟨ad, l, c, _, _, _, _, hcs, _⟩
  · exact ⟨none, 0, 0, by simpa using hcs⟩
  · exact ⟨some ad, l, c, by simpa using hcs⟩
end
theorem list3 {l : List Value} {a b c : Value} (h : l.length = 3) (h0 : l[0]? = some a) (h1 : l[1]? = some b) (h2 : l[2]? = some c) : l = [a, b, c] := by
  match l, h with
  | [_, _, _], _ => simp_all
theorem list4 {l : List Value} {a b c d : Value} (h : l.length = 4) (h0 : l[0]? = some a) (h1 : l[1]? = some b) (h2 : l[2]? = some c) (h3 : l[3]? = some d) : l = [a, b, c, d] := by
  match l, h with
  | [_, _, _, _], _ => simp_all
theorem list6 {l : List Value} {a b c d e f : Value} (h : l.length = 6) (h0 : l[0]? = some a) (h1 : l[1]? = some b) (h2 : l[2]? = some c) (h3 : l[3]? = some d) (h4 : l[4]? = some e) (h5 : l[5]? = some f) : l = [a, b, c, d, e, f] := by
  match l, h with
  | [_, _, _, _, _, _], _ => simp_all
section
variable {H : Type} {enc : TypeId × Value → H} {w : World} {spare : Nat → Bool} {held : Bool}
theorem evs_open {len cap : Nat} {a : Option Addr} {d : DataW H} {p : List MemPlace} (h : DataW.Trod enc Try.prog w 0 spare held 22 (.slice a len cap) d p) : ∃ L, EvsAt w a len L := by
  obtain ⟨L, hl, hr⟩ := open_list (k := 6) EvD.cells Try.underlying22 (by kernel_rfl) (by decide) (fun cs n x hl ht => by
    obtain ⟨_, hf⟩ := trod_fields Try.underlying104 (by kernel_rfl) (by kernel_rfl) ht
    obtain ⟨v0, _, _, e0, h0⟩ := hf 0 _ rfl
    obtain ⟨v1, _, _, e1, h1⟩ := hf 1 _ rfl
    obtain ⟨v2, _, _, e2, h2⟩ := hf 2 _ rfl
    obtain ⟨v3, _, _, e3, h3⟩ := hf 3 _ rfl
    obtain ⟨v4, _, _, e4, h4⟩ := hf 4 _ rfl
    obtain ⟨v5, _, _, e5, h5⟩ := hf 5 _ rfl
    obtain ⟨m0, rfl, _⟩ := field_string Try.underlying9 h0
    obtain ⟨m1, rfl, _⟩ := field_string Try.underlying9 h1
    obtain ⟨m2, rfl, _⟩ := field_string Try.underlying9 h2
    obtain ⟨m3, rfl⟩ := field_bool Try.underlying4 h3
    obtain ⟨m4, rfl⟩ := field_bool Try.underlying4 h4
    obtain ⟨m5, rfl, _⟩ := field_int Try.underlying3 h5
    exact ⟨⟨m0, m1, m2, m3, m4, m5⟩, list6 hl e0 e1 e2 e3 e4 e5⟩) h
  exact ⟨L, hl, hr⟩
theorem ties_open {len cap : Nat} {a : Option Addr} {d : DataW H} {p : List MemPlace} (h : DataW.Trod enc Try.prog w 0 spare held 23 (.slice a len cap) d p) : ∃ L, TiesAt w a len L := by
  obtain ⟨L, hl, hr⟩ := open_list (k := 4) TieD.cells Try.underlying23 (by kernel_rfl) (by decide) (fun cs n x hl ht => by
    obtain ⟨_, hf⟩ := trod_fields Try.underlying57 (by kernel_rfl) (by kernel_rfl) ht
    obtain ⟨v0, _, _, e0, h0⟩ := hf 0 _ rfl
    obtain ⟨v1, _, _, e1, h1⟩ := hf 1 _ rfl
    obtain ⟨v2, _, _, e2, h2⟩ := hf 2 _ rfl
    obtain ⟨v3, _, _, e3, h3⟩ := hf 3 _ rfl
    obtain ⟨m0, rfl, _⟩ := field_int Try.underlying3 h0
    obtain ⟨m1, rfl, _⟩ := field_int Try.underlying3 h1
    obtain ⟨m2, rfl, _⟩ := field_int Try.underlying3 h2
    obtain ⟨m3, rfl, _⟩ := field_int Try.underlying3 h3
    exact ⟨⟨m0, m1, m2, m3⟩, list4 hl e0 e1 e2 e3⟩) h
  exact ⟨L, hl, hr⟩
end
/-- Bytes that came in. -/
structure StepsAt (w : World) (a : Option Addr) (n : Nat) (L : List Nat) : Prop where
  few : n ≤ 9223372036854775807
  len : L.length = n
  rows : RowsAt w a n 1 (fun i => [.int .u8 ((L.getD i default : Nat) : Int)])
  small : ∀ i, L.getD i default ≤ 255
theorem StepsAt.fr {w w' : World} {a : Option Addr} {n : Nat} {M : List Nat} (h : StepsAt w a n M) (f : Fr [] w w') : StepsAt w' a n M := ⟨h.few, h.len, h.rows.fr f, h.small⟩
section
variable {H : Type} {enc : TypeId × Value → H} {w : World} {spare : Nat → Bool} {held : Bool}
/-- A graph that came in. -/
structure FlatIn (w : World) (f : FlatD) : Prop where
  evs : EvsAt w f.ea f.en f.E
  ties : TiesAt w f.ta f.tn f.T
theorem FlatIn.fr {w w' : World} {f : FlatD} (h : FlatIn w f) (g : Fr [] w w') : FlatIn w' f := ⟨h.evs.fr g, h.ties.fr g⟩
theorem FlatIn.at {w : World} {f : FlatD} (h : FlatIn w f) (h1 : f.en ≤ 40) (h2 : f.tn ≤ 300) : FlatAt w f := ⟨h.evs, h.ties, by omega, by omega⟩
end
end Go.Proofs.Ytclkahggfdnpgaa
set_option linter.unusedVariables false
set_option linter.unusedSimpArgs false
namespace Go.Proofs.Ytclkahggfdnpgaa
open Go.RowKit
def IntsAt (w : World) (a : Option Addr) (n : Nat) (L : List Int) : Prop := L.length = n ∧ RowsAt w a n 1 (fun i => [iv (L.getD i default)])
theorem IntsAt.fr {w w' : World} {a : Option Addr} {n : Nat} {L : List Int} (h : IntsAt w a n L) (f : Fr [] w w') : IntsAt w' a n L := ⟨h.1, h.2.fr f⟩
theorem own_intsAt {w : World} {base : Nat} {v : Value} {L : List Int} (h : w.ownsRow base 3 1 v L.length (L.map iv)) : ∃ a c, v = .slice a L.length c ∧ (∀ g o, a = some ⟨g, o, none⟩ → base ≤ g) ∧ IntsAt w a L.length L := by
  rcases h.2 with ⟨rfl, h0⟩ | ⟨g, cap, cur, rfl, hb, hg, hn, hcm, hcs, ht⟩
  · exact ⟨none, 0, by rw [h0], by simp, rfl, ⟨fun h1 => absurd h1 (by omega)⟩⟩
  · refine ⟨_, cap, rfl, fun g' o' he => by cases he; exact hb, rfl, ⟨fun h0 => ⟨g, 0, rfl, (Array.getElem?_eq_some_iff.1 hg).1, fun i hi j v hj => ?_⟩⟩⟩
    have hj0 : j = 0 := by
      have := (List.getElem?_eq_some_iff.1 hj).1
      simp at this
      exact this
    subst hj0
    simp only [List.getElem?_cons_zero, Option.some.injEq] at hj
    rw [cell_of_row w g _ _ _ _ hg, ← Array.getElem?_toList]
    have h2 : (L.map iv)[i]? = some (iv (L.getD i default)) := by rw [List.getElem?_map, getD_at L i hi]; rfl
    rw [← ht, List.getElem?_take, if_pos (by omega)] at h2
    rw [show 0 + i * 1 + 0 = i by omega, h2, hj]
theorem IntsP.at_ {L : List Int} {w : World} {e : Ending} {w' : World} (h : IntsP L w e w') : ∃ a c, e = .returned (.slice a L.length c) ∧ (∀ g o, a = some ⟨g, o, none⟩ → w.heap.size ≤ g) ∧ IntsAt w' a L.length L ∧ Fr [] w w' := by
  obtain ⟨v, rfl, ho, hF⟩ := h
  obtain ⟨a, c, rfl, hb, hI⟩ := own_intsAt ho
  exact ⟨a, c, rfl, hb, hI, hF⟩
set_option maxHeartbeats 4000000 in
theorem isame_any (a b : Option Addr) (n m c d : Nat) (L M : List Int) (w : World) (hn : n ≤ 100000) (hm : m ≤ 100000) (hL : IntsAt w a n L) (hM : IntsAt w b m M) :
    Calls Try.prog 47 #[.slice a n c, .slice b m d] w fun e w' => e = .returned (.bool (decide (L = M))) ∧ Fr [] w w' := by
  have hl1 := Lib.hid hL.1
  have hl2 := Lib.hid hM.1
  by_cases he : n = m
  · subst he
    have HL := Lib.hid hL
    have HM := Lib.hid hM
    clear hL hM
    go_enter Try.func47, Try.ntmps47
    go_wp2_with fail
    go_loopg [5] n (fun k i wr => ∃ j : Nat, k = n - j ∧ j ≤ n ∧ i = .int .i64 j ∧ L.take j = M.take j ∧ Fr [] w wr)
    case atStart => exact ⟨0, rfl, by omega, rfl, by simp, Fr.refl _ _⟩
    case round =>
      obtain ⟨j, rfl, hj, rfl, ht, hF⟩ := hrel
      have F := Lib.hid hF
      have TT := Lib.hid ht
      clear ht
      by_cases hjn : j < n
      · have hd : decide (j < n) = true := by rw [decide_eq_true_iff]; omega
        obtain ⟨b1, o1, rfl, hb1, hc1⟩ := (HL.out.fr hF).2.at_ (by omega)
        obtain ⟨b2, o2, rfl, hb2, hc2⟩ := (HM.out.fr hF).2.at_ (by omega)
        have k1 := hc1 j hjn 0 _ rfl
        have k2 := hc2 j hjn 0 _ rfl
        have T1 := Lib.hid (take_succD L j (by rw [hl1.out]; exact hjn))
        have T2 := Lib.hid (take_succD M j (by rw [hl2.out]; exact hjn))
        generalize L.getD j default = x at k1 T1
        generalize M.getD j default = y at k2 T2
        have x0 : wr.cell? ⟨b1, o1 + j, none⟩ = some (.int .i64 x) := by simpa [iv] using k1
        have y0 : wr.cell? ⟨b2, o2 + j, none⟩ = some (.int .i64 y) := by simpa [iv] using k2
        clear k1 k2 hc1 hc2 hF
        go_wp2_with fail
        by_cases h1 : x = y
        · subst h1
          go_region_held_law (fun w' => w'.cell? ⟨b1, o1 + j, none⟩ = some (.int .i64 x) ∧ w'.cell? ⟨b2, o2 + j, none⟩ = some (.int .i64 x)) (go_keep) (fail)
          all_goals
            go_wp2_with fail
            go_roundg (n - (j + 1))
            case measure => omega
            case rel => exact ⟨j + 1, rfl, by omega, rfl, by rw [T1.out, T2.out, TT.out], F.out.drewN 1⟩
        · skip
          have e3 : (x != y) = true := by simpa using h1
          have hLM : ¬ L = M := by
            intro h
            subst h
            have := T1.out.symm.trans T2.out
            simp at this
            exact h1 this
          have HLM := Lib.hid hLM
          clear hLM
          go_region_held_law (fun w' => w'.cell? ⟨b1, o1 + j, none⟩ = some (.int .i64 x) ∧ w'.cell? ⟨b2, o2 + j, none⟩ = some (.int .i64 y)) (go_keep) (fail)
          all_goals
            go_wp2_with fail
            go_ret
            exact ⟨ret_bool (decide_eq_false HLM.out).symm, F.out.drewN 1⟩
      · have hd : decide (j < n) = false := by rw [decide_eq_false_iff_not]; omega
        have hLM : L = M := by
          have ht := TT.out
          rw [List.take_of_length_le (by rw [hl1.out]; omega), List.take_of_length_le (by rw [hl2.out]; omega)] at ht
          exact ht
        have HLM := Lib.hid hLM
        clear hLM hF
        go_wp2_with fail
        go_ret
        exact ⟨ret_bool (decide_eq_true HLM.out).symm, F.out⟩
  · have hd : ((n : Int) != (m : Int)) = true := by simpa using (by omega : ¬ (n : Int) = m)
    have hLM : ¬ L = M := fun h => he (by rw [← hl1.out, ← hl2.out, h])
    have HLM := Lib.hid hLM
    clear hL hM hLM
    go_enter Try.func47, Try.ntmps47
    go_wp2_with fail
    go_ret
    exact ⟨ret_bool (decide_eq_false HLM.out).symm, Fr.refl _ _⟩
/-- A program as it is handed over, however large. -/
structure ProgIn (w : World) (p : ProgD) : Prop where
  rows : RowsAt w p.pa p.Fs.length 2 (fun i => (p.Fs.getD i default).cells)
  flats : ∀ f ∈ p.Fs, FlatIn w f
  calls : RowsAt w p.ca p.Cs.length 4 (fun i => (p.Cs.getD i default).cells)
  max : p.Fs.length ≤ 9223372036854775807
theorem ProgIn.fr {w w' : World} {p : ProgD} (h : ProgIn w p) (f : Fr [] w w') : ProgIn w' p := ⟨h.rows.fr f, fun g hg => (h.flats g hg).fr f, h.calls.fr f, h.max⟩
def bigF (f : FlatD) : Bool := decide (f.en > 10) || decide (f.tn > 60)
def bigP (p : ProgD) : Bool := p.Fs.any bigF || (decide (p.Fs.length > 9) || decide (p.Cs.length > 20))
theorem ProgIn.at_ {w : World} {p : ProgD} (h : ProgIn w p) (hb : bigP p = false) : ProgAt w p ∧ ∀ f ∈ p.Fs, f.en ≤ 10 := by
  unfold bigP at hb
  simp only [Bool.or_eq_false_iff, List.any_eq_false, decide_eq_false_iff_not] at hb
  obtain ⟨h1, h2, h3⟩ := hb
  have hf : ∀ f ∈ p.Fs, f.en ≤ 10 ∧ f.tn ≤ 60 := by
    intro f hf
    have := h1 f hf
    unfold bigF at this
    simp only [Bool.or_eq_true, decide_eq_true_iff] at this
    omega
  exact ⟨⟨h.rows, fun f hm => (h.flats f hm).at (by have := hf f hm; omega) (by have := hf f hm; omega), h.calls, by omega, by omega⟩, fun f hm => (hf f hm).1⟩
end Go.Proofs.Ytclkahggfdnpgaa
set_option linter.unusedVariables false
set_option linter.unusedSimpArgs false
namespace Go.Proofs.Ytclkahggfdnpgaa
open Go.ChangeShapes Go.WideShapes Go.Deep Go.RowKit
section
variable {H : Type} {enc : TypeId × Value → H} {P : Program} {w : World} {spare : Nat → Bool} {held : Bool}
/-- A slice of structs: a list of them, each with what is known of it. -/
theorem open_listP {α : Type} [Inhabited α] {t e k len cap : Nat} {a : Option Addr} {d : DataW H} {p : List MemPlace} (cells : α → List Value) (Q : α → Prop) (ht : P.underlying t = some (.slice e)) (hk : P.cellsOf e = k) (hk0 : 0 < k)
    (hel : ∀ (cs : List Value) n x, cs.length = k → DataW.trod enc P w 0 spare held n e cs = some x → ∃ y : α, cs = cells y ∧ Q y) (h : DataW.Trod enc P w 0 spare held t (.slice a len cap) d p) :
    ∃ L : List α, L.length = len ∧ RowsAt w a len k (fun i => cells (L.getD i default)) ∧ ∀ y ∈ L, Q y := by
  obtain ⟨_, C, hC, hd⟩ := open_rows ht hk hk0 h
  have hL : ∀ i, i < len → ∃ x : α, C i = cells x ∧ Q x := fun i hi => by
    obtain ⟨hl, n, x, hx⟩ := hd i hi
    exact hel _ n x hl hx
  obtain ⟨L, hL⟩ := choose_lt hL
  refine ⟨(List.range len).map L, by simp, ⟨fun h0 => ?_⟩, ?_⟩
  · obtain ⟨b, o, rfl, hb, hh⟩ := hC.at_ h0
    refine ⟨b, o, rfl, hb, fun i hi j v hj => hh i hi j v ?_⟩
    have e1 : ((List.range len).map L).getD i default = L i := by
      rw [List.getD_eq_getElem?_getD, List.getElem?_map, List.getElem?_range hi]
      rfl
    have hj' : (cells (((List.range len).map L).getD i default))[j]? = some v := hj
    rw [e1, ← (hL i hi).1] at hj'
    exact hj'
  · intro y hy
    obtain ⟨i, hi, rfl⟩ := List.mem_map.1 hy
    exact (hL i (List.mem_range.1 hi)).2
end
/-- Acts. -/
structure ActD where
  k : Int
  id : Int
  at_ : Int
deriving Inhabited
def ActD.cells (x : ActD) : List Value := [.int .i64 x.k, .int .i64 x.id, .int .i64 x.at_]
def ActD.val (x : ActD) : Value := .agg #[.int .i64 x.k, .int .i64 x.id, .int .i64 x.at_]
structure ActsAt (w : World) (a : Option Addr) (n : Nat) (L : List ActD) : Prop where
  len : L.length = n
  rows : RowsAt w a n 3 (fun i => (L.getD i default).cells)
theorem ActsAt.fr {w w' : World} {a : Option Addr} {n : Nat} {L : List ActD} (h : ActsAt w a n L) (f : Fr [] w w') : ActsAt w' a n L := ⟨h.len, h.rows.fr f⟩
section
variable {H : Type} {enc : TypeId × Value → H} {w : World} {spare : Nat → Bool} {held : Bool}
theorem tacts_open {len cap : Nat} {a : Option Addr} {d : DataW H} {p : List MemPlace} (h : DataW.Trod enc Try.prog w 0 spare held 63 (.slice a len cap) d p) : ∃ L, ActsAt w a len L := by
  obtain ⟨L, hl, hr⟩ := open_list (k := 3) ActD.cells Try.underlying63 (by kernel_rfl) (by decide) (fun cs n x hl ht => by
    obtain ⟨_, hf⟩ := trod_fields Try.underlying77 (by kernel_rfl) (by kernel_rfl) ht
    obtain ⟨v0, _, _, e0, h0⟩ := hf 0 _ rfl
    obtain ⟨v1, _, _, e1, h1⟩ := hf 1 _ rfl
    obtain ⟨v2, _, _, e2, h2⟩ := hf 2 _ rfl
    obtain ⟨m0, rfl, _⟩ := field_int Try.underlying3 h0
    obtain ⟨m1, rfl, _⟩ := field_int Try.underlying3 h1
    obtain ⟨m2, rfl, _⟩ := field_int Try.underlying3 h2
    exact ⟨⟨m0, m1, m2⟩, list3 hl e0 e1 e2⟩) h
  exact ⟨L, hl, hr⟩
theorem list2 {l : List Value} {a b : Value} (h : l.length = 2) (h0 : l[0]? = some a) (h1 : l[1]? = some b) : l = [a, b] := by
  match l, h with
  | [_, _], _ => simp_all
theorem flats_open {len cap : Nat} {a : Option Addr} {d : DataW H} {p : List MemPlace} (h : DataW.Trod enc Try.prog w 0 spare held 59 (.slice a len cap) d p) : ∃ L : List FlatD, len ≤ maxLen ∧ L.length = len ∧ RowsAt w a len 2 (fun i => (L.getD i default).cells) ∧ ∀ f ∈ L, FlatIn w f := by
  have hm := (open_rows (k := 2) Try.underlying59 (by kernel_rfl) (by decide) h).1
  suffices hh : ∃ L : List FlatD, L.length = len ∧ RowsAt w a len 2 (fun i => (L.getD i default).cells) ∧ ∀ f ∈ L, FlatIn w f by
    obtain ⟨L, h1⟩ := hh
    exact ⟨L, hm, h1⟩
  refine open_listP (k := 2) FlatD.cells (FlatIn w) Try.underlying59 (by kernel_rfl) (by decide) (fun cs n x hl ht => ?_) h
  obtain ⟨_, hf⟩ := trod_fields Try.underlying25 (by kernel_rfl) (by kernel_rfl) ht
  obtain ⟨v0, n0, _, e0, h0⟩ := hf 0 _ rfl
  obtain ⟨v1, n1, _, e1, h1⟩ := hf 1 _ rfl
  obtain ⟨ea, en, ec, rfl⟩ := field_slice Try.underlying22 h0
  obtain ⟨ta, tn, tc, rfl⟩ := field_slice Try.underlying23 h1
  obtain ⟨E, hE⟩ := evs_open (a := ea) (len := en) (cap := ec) ⟨n0, h0⟩
  obtain ⟨T, hT⟩ := ties_open (a := ta) (len := tn) (cap := tc) ⟨n1, h1⟩
  exact ⟨⟨ea, en, ec, ta, tn, tc, E, T⟩, list2 hl e0 e1, hE, hT⟩
theorem calls_open {len cap : Nat} {a : Option Addr} {d : DataW H} {p : List MemPlace} (h : DataW.Trod enc Try.prog w 0 spare held 60 (.slice a len cap) d p) : ∃ L : List CallD, L.length = len ∧ RowsAt w a len 4 (fun i => (L.getD i default).cells) := by
  refine open_list (k := 4) CallD.cells Try.underlying60 (by kernel_rfl) (by decide) (fun cs n x hl ht => ?_) h
  obtain ⟨_, hf⟩ := trod_fields Try.underlying97 (by kernel_rfl) (by kernel_rfl) ht
  obtain ⟨v0, _, _, e0, h0⟩ := hf 0 _ rfl
  obtain ⟨v1, _, _, e1, h1⟩ := hf 1 _ rfl
  obtain ⟨v2, _, _, e2, h2⟩ := hf 2 _ rfl
  obtain ⟨v3, _, _, e3, h3⟩ := hf 3 _ rfl
  obtain ⟨m0, rfl, _⟩ := field_int Try.underlying3 h0
  obtain ⟨m1, rfl, _⟩ := field_int Try.underlying3 h1
  obtain ⟨m2, rfl, _⟩ := field_int Try.underlying3 h2
  obtain ⟨m3, rfl⟩ := field_bool Try.underlying4 h3
  exact ⟨⟨m0, m1, m2, m3⟩, list4 hl e0 e1 e2 e3⟩
set_option maxRecDepth 100000 in
theorem prog_open {r : Reach} {b0 : Nat} {v : Value} {d : DataW H} {p : List MemPlace} (hv : Value.okWide Try.prog w r b0 62 v) (h : DataW.Trod enc Try.prog w 0 spare held 62 v d p) : ∃ X : ProgD, v = X.val ∧ ProgIn w X := by
  obtain ⟨v0, v1, y0, y1, n, rfl, _, _, h0, h1⟩ := Go.Joins.open_agg2 (P := Try.prog) (t := 62) Try.underlying62 (by kernel_rfl) (by kernel_rfl) hv h
  obtain ⟨pa, pn, pc, rfl⟩ := field_slice Try.underlying59 h0
  obtain ⟨ca, cn, cc, rfl⟩ := field_slice Try.underlying60 h1
  obtain ⟨Fs, hm1, hl1, hr1, hf⟩ := flats_open (a := pa) (len := pn) (cap := pc) ⟨n, h0⟩
  obtain ⟨Cs, hl2, hr2⟩ := calls_open (a := ca) (len := cn) (cap := cc) ⟨n, h1⟩
  refine ⟨⟨pa, pc, Fs, ca, cc, Cs⟩, ?_, ?_, hf, ?_, by rw [hl1]; unfold maxLen at hm1; exact hm1⟩
  · unfold ProgD.val
    rw [hl1, hl2]
  · rw [hl1]; exact hr1
  · rw [hl2]; exact hr2
end
end Go.Proofs.Ytclkahggfdnpgaa
set_option linter.unusedVariables false
set_option linter.unusedSimpArgs false
namespace Go.Proofs.Ytclkahggfdnpgaa
open Go.RowKit
set_option maxHeartbeats 4000000 in
set_option maxRecDepth 100000 in
theorem large19_any (p : ProgD) (w : World) (h : ProgIn w p) :
    Calls Try.prog 35 #[p.val] w fun e w' => e = .returned (.bool (bigP p)) ∧ Fr [] w w' := by
  have HH := Lib.hid h
  have hmax := h.max
  have FA := Lib.hid ((Fr.refl [] w).alloc (.cells #[.slice p.pa p.Fs.length p.pc, .slice p.ca p.Cs.length p.cc] 62))
  have RB := Lib.hid (Row.new w [.slice p.pa p.Fs.length p.pc, .slice p.ca p.Cs.length p.cc] 62)
  unfold ProgD.val
  obtain ⟨pa, hpa0⟩ : ∃ a, a = p.pa := ⟨_, rfl⟩
  obtain ⟨n, hn⟩ : ∃ n, n = p.Fs.length := ⟨_, rfl⟩
  obtain ⟨m, hm⟩ : ∃ n, n = p.Cs.length := ⟨_, rfl⟩
  rw [← hpa0, ← hn, ← hm] at FA RB ⊢
  rw [← hn] at hmax
  have HPA := Lib.hid hpa0
  have HN := Lib.hid hn
  have HM := Lib.hid hm
  clear h hpa0 hn hm
  go_enter Try.func35, Try.ntmps35
  go_wp2_with fail
  obtain ⟨w1, hw1⟩ : ∃ w1, w1 = w.alloc (.cells #[.slice pa n p.pc, .slice p.ca m p.cc] 62) := ⟨_, rfl⟩
  rw [← hw1] at FA RB ⊢
  clear hw1
  go_loopg [3, 7] n (fun k u3 i wr => ∃ j : Nat, k = n - j ∧ j ≤ n ∧ i = .int .i64 j ∧ (p.Fs.take j).any bigF = false ∧ Fr [] w1 wr)
  case atStart => exact ⟨0, rfl, by omega, rfl, rfl, Fr.refl _ _⟩
  case round =>
    obtain ⟨j, rfl, hj, rfl, ht, hF⟩ := hrel
    have TT := Lib.hid ht
    have F := Lib.hid (FA.out.trans hF (by simp))
    have F1 := Lib.hid hF
    have r0 : wr.cell? ⟨w.heap.size, 0, none⟩ = some (.slice pa n p.pc) := (RB.out.fr hF (by simp)).cell 0
    have r1 : wr.cell? ⟨w.heap.size, 1, none⟩ = some (.slice p.ca m p.cc) := (RB.out.fr hF (by simp)).cell 1
    clear ht hF
    by_cases hjn : j < n
    · have hd : decide (j < n) = true := decide_eq_true hjn
      obtain ⟨gt, ot, hpa, hgt, hct⟩ := (HH.out.rows.fr F.out).at_ (by rw [← HN.out]; omega)
      have hcx := hct j (by rw [← HN.out]; exact hjn)
      have T1 := Lib.hid (take_succD p.Fs j (by rw [← HN.out]; exact hjn))
      obtain ⟨f, hf⟩ : ∃ f, p.Fs.getD j default = f := ⟨_, rfl⟩
      have HM2 := Lib.hid (show f ∈ p.Fs by rw [← hf]; exact getD_memD _ _ (by rw [← HN.out]; exact hjn))
      rw [hf] at hcx T1
      have y0 : wr.cell? ⟨gt, ot + j * 2, none⟩ = some (.slice f.ea f.en f.ec) := hcx 0 _ rfl
      have y1 : wr.cell? ⟨gt, ot + j * 2 + 1, none⟩ = some (.slice f.ta f.tn f.tc) := hcx 1 _ rfl
      have hpa2 := HPA.out.trans hpa
      subst hpa2
      clear hcx hct hf hpa hgt
      by_cases h1 : f.en > 10
      · have d1 : decide (f.en > 10) = true := decide_eq_true h1
        have e1 : decide ((10 : Int) < (f.en : Int)) = true := decide_eq_true (by omega)
        have BB := Lib.hid (show bigF f = true by unfold bigF; rw [d1]; rfl)
        go_wp2_with fail
        go_ret
        refine ⟨?_, F.out⟩
        have : bigP p = true := by
          unfold bigP
          rw [Bool.or_eq_true]
          exact .inl (List.any_eq_true.2 ⟨f, HM2.out, BB.out⟩)
        rw [this]
        rfl
      · have d1 : decide (f.en > 10) = false := decide_eq_false h1
        have e1 : decide ((10 : Int) < (f.en : Int)) = false := decide_eq_false (by omega)
        by_cases h2 : f.tn > 60
        · have d2 : decide (f.tn > 60) = true := decide_eq_true h2
          have e2 : decide ((60 : Int) < (f.tn : Int)) = true := decide_eq_true (by omega)
          have BB := Lib.hid (show bigF f = true by unfold bigF; rw [d1, d2]; rfl)
          clear h1 h2
          go_wp2_with fail
          go_ret
          refine ⟨?_, F.out⟩
          have : bigP p = true := by
            unfold bigP
            rw [Bool.or_eq_true]
            exact .inl (List.any_eq_true.2 ⟨f, HM2.out, BB.out⟩)
          rw [this]
          rfl
        · have d2 : decide (f.tn > 60) = false := decide_eq_false h2
          have e2 : decide ((60 : Int) < (f.tn : Int)) = false := decide_eq_false (by omega)
          have BB := Lib.hid (show bigF f = false by unfold bigF; rw [d1, d2]; rfl)
          clear h1 h2
          go_wp2_with fail
          go_roundg (n - (j + 1))
          case measure => omega
          case rel => exact ⟨j + 1, rfl, by omega, rfl, by rw [T1.out, List.any_append, TT.out]; simp [BB.out], F1.out⟩
    · have hd : decide (j < n) = false := decide_eq_false hjn
      obtain rfl : j = n := by omega
      have hall := TT.out
      rw [List.take_of_length_le (by rw [← HN.out]; omega)] at hall
      have HA := Lib.hid hall
      by_cases h1 : j > 9
      · have d1 : decide (j > 9) = true := decide_eq_true h1
        have e1 : decide ((9 : Int) < (j : Int)) = true := decide_eq_true (by omega)
        have HB := Lib.hid (show bigP p = true by unfold bigP; rw [HA.out, ← HN.out, d1]; rfl)
        clear hall
        go_wp2_with fail
        go_ret
        exact ⟨by rw [HB.out]; rfl, F.out⟩
      · have d1 : decide (j > 9) = false := decide_eq_false h1
        have e1 : decide ((9 : Int) < (j : Int)) = false := decide_eq_false (by omega)
        have HB := Lib.hid (show bigP p = decide (m > 20) by unfold bigP; rw [HA.out, ← HN.out, d1, ← HM.out]; rfl)
        clear hall h1
        go_wp2_with fail
        go_ret
        refine ⟨ret_bool ?_, F.out⟩
        rw [HB.out]
        by_cases h9 : m > 20 <;> simp [h9] <;> omega
end Go.Proofs.Ytclkahggfdnpgaa
set_option linter.unusedVariables false
set_option linter.unusedSimpArgs false
namespace Go.Proofs.Ytclkahggfdnpgaa
open Go.RowKit
/-- At tb lies a tree that reads P; its blocks are S. -/
structure TreeIs (w : World) (tb hi : Nat) (S : List Nat) (P : PT) : Prop where
  ex : ∃ T, TreeAt w tb hi T ∧ T.pl = P ∧ T.blocks tb = S
  size : hi ≤ w.heap.size
theorem TreeIs.lt {w : World} {tb hi : Nat} {S : List Nat} {P : PT} (h : TreeIs w tb hi S P) : ∀ y ∈ S, y < w.heap.size := by
  obtain ⟨⟨T, hT, _, rfl⟩, _⟩ := h
  intro y hy
  rcases List.mem_cons.1 hy with rfl | hy
  · exact hT.head.lt
  · rcases List.mem_append.1 hy with hy | hy
    · exact (hT.row.lt y (by simpa using hy)).2
    · obtain ⟨x, hx, rfl⟩ := List.mem_map.1 hy
      exact (hT.ins x hx).lt
theorem TreeIs.fr {w w' : World} {tb hi : Nat} {S : List Nat} {P : PT} (h : TreeIs w tb hi S P) (f : Fr [] w w') : TreeIs w' tb hi S P := by
  obtain ⟨⟨T, hT, h1, h2⟩, h3⟩ := h
  exact ⟨⟨T, hT.fr f, h1, h2⟩, Nat.le_trans h3 f.size⟩
/-- A tree behind an act. -/
def NextI (tb hi : Nat) (S : List Nat) (w : World) (P : PT) (w' : World) : Prop := ∃ S', TreeIs w' tb hi S' P ∧ Fr S w w' ∧ ∀ y ∈ S', y ∈ S ∨ w.heap.size ≤ y
theorem NextT.is {tb hi : Nat} {T T' : TreeD} {w w' : World} (h : NextT tb hi T T' w w') (hs : hi ≤ w.heap.size) : NextI tb hi (T.blocks tb) w T'.pl w' :=
  ⟨T'.blocks tb, ⟨⟨T', h.1, rfl, rfl⟩, Nat.le_trans hs h.2.1.size⟩, h.2.1, h.2.2.1⟩
def NewI (p : ProgD) (w : World) (e : Ending) (w' : World) : Prop :=
  (mayB p.Fs p.Cs = false ∧ e = .returned (.tuple #[.pointer none, .int .i64 1]) ∧ Fr [] w w') ∨
  (mayB p.Fs p.Cs = true ∧ ∃ tb hi S, e = .returned (.tuple #[.pointer (some ⟨tb, 0, none⟩), .int .i64 0]) ∧ TreeIs w' tb hi S (newPT p.Fs p.Cs) ∧ GoodP (newPT p.Fs p.Cs) 1 ∧ (∀ y ∈ S, w.heap.size ≤ y) ∧ Fr [] w w')
theorem new_is (p : ProgD) (w : World) (h : ProgAt w p) (en : ∀ f ∈ p.Fs, f.en ≤ 10) : Calls Try.prog 37 #[p.val] w (NewI p w) := by
  have HE := Lib.hid (fun f (hf : f ∈ p.Fs) => (h.flats f hf).evs.1)
  refine (new_any p w h).mono ?_
  rintro e w' (⟨hm, rfl, hF⟩ | ⟨hm, tb, hi, T, rfl, hN, hT, hs, htb, _, _, hF⟩)
  · exact .inl ⟨hm, rfl, hF⟩
  · have h0 : 0 < p.Fs.length := by
      unfold mayB at hm
      simp only [Bool.and_eq_true, decide_eq_true_iff] at hm
      omega
    refine .inr ⟨hm, tb, hi, T.blocks tb, rfl, ⟨⟨T, hT, hN.pl h0, rfl⟩, hs⟩, newPT_good hm en HE.out, fun y hy => ?_, hF⟩
    have := hT.tbh
    rcases hT.blocks_lo hy with h1 | h1 <;> omega
section
variable {w : World} {tb hi : Nat} {S : List Nat} {P : PT} {n : Nat}
theorem do_is (h : TreeIs w tb hi S P) (g : GoodP P n) (hn : n ≤ 900) (id at' : Int) :
    Calls Try.prog 41 #[.pointer (some ⟨tb, 0, none⟩), .int .i64 id, .int .i64 at'] w fun e w' => e = .returned (.tuple #[.int .i64 (doF P id at').1, .int .i64 (doF P id at').2.1]) ∧ NextI tb hi S w (doF P id at').2.2 w' := by
  obtain ⟨⟨T, hT, rfl, rfl⟩, hs⟩ := h
  refine (do_pl tb hi T id at' w hT g hn hs).mono ?_
  rintro e w' ⟨T', rfl, hp, hN⟩
  exact ⟨rfl, hp ▸ hN.is hs⟩
theorem end_is (h : TreeIs w tb hi S P) (g : GoodP P n) (hn : n ≤ 900) (id : Int) :
    Calls Try.prog 43 #[.pointer (some ⟨tb, 0, none⟩), .int .i64 id] w fun e w' => e = .returned (.int .i64 (endF P id).1) ∧ NextI tb hi S w (endF P id).2 w' := by
  obtain ⟨⟨T, hT, rfl, rfl⟩, hs⟩ := h
  refine (end_pl tb hi T id w hT g hn hs).mono ?_
  rintro e w' ⟨T', rfl, hp, hN⟩
  exact ⟨rfl, hp ▸ hN.is hs⟩
theorem tick_is (h : TreeIs w tb hi S P) (g : GoodP P n) (hn : n ≤ 900) :
    Calls Try.prog 45 #[.pointer (some ⟨tb, 0, none⟩)] w fun e w' => e = .returned (.int .i64 (tickF P).1) ∧ NextI tb hi S w (tickF P).2 w' := by
  obtain ⟨⟨T, hT, rfl, rfl⟩, hs⟩ := h
  refine (tick_pl tb hi T w hT g hn hs).mono ?_
  rintro e w' ⟨T', rfl, hp, hN⟩
  exact ⟨rfl, hp ▸ hN.is hs⟩
theorem slack_is (h : TreeIs w tb hi S P) (g : GoodP P n) (hn : n ≤ 900) :
    Calls Try.prog 54 #[.pointer (some ⟨tb, 0, none⟩)] w fun e w' => e = .returned (.int .i64 P.slack) ∧ Fr [] w w' := by
  obtain ⟨⟨T, hT, rfl, rfl⟩, hs⟩ := h
  exact slack_q tb hi T w hT g hn
theorem done_is (h : TreeIs w tb hi S P) (g : GoodP P n) (hn : n ≤ 900) :
    Calls Try.prog 56 #[.pointer (some ⟨tb, 0, none⟩)] w fun e w' => e = .returned (.bool P.done) ∧ Fr [] w w' := by
  obtain ⟨⟨T, hT, rfl, rfl⟩, hs⟩ := h
  exact done_q tb hi T w hT g hn
theorem mark_is (h : TreeIs w tb hi S P) (g : GoodP P n) (hn : n ≤ 900) (id : Int) :
    Calls Try.prog 58 #[.pointer (some ⟨tb, 0, none⟩), .int .i64 id] w (MarkQ P id w) := by
  obtain ⟨⟨T, hT, rfl, rfl⟩, hs⟩ := h
  exact mark_q tb hi T id w hT g hn
theorem depth_is (h : TreeIs w tb hi S P) (g : GoodP P n) (hn : n ≤ 900) (id : Int) :
    Calls Try.prog 52 #[.pointer (some ⟨tb, 0, none⟩), .int .i64 id] w fun e w' => e = .returned (.int .i64 (P.depth id)) ∧ Fr [] w w' := by
  obtain ⟨⟨T, hT, rfl, rfl⟩, hs⟩ := h
  exact depth_q tb hi T id w hT g hn
def IntsQ (L : List Int) (w : World) (e : Ending) (w' : World) : Prop := ∃ a c, e = .returned (.slice a L.length c) ∧ (∀ g o, a = some ⟨g, o, none⟩ → w.heap.size ≤ g) ∧ IntsAt w' a L.length L ∧ Fr [] w w'
theorem live_is (h : TreeIs w tb hi S P) : Calls Try.prog 48 #[.pointer (some ⟨tb, 0, none⟩)] w (IntsQ (P.L.map (·.id)) w) := by
  obtain ⟨⟨T, hT, rfl, rfl⟩, hs⟩ := h
  exact (live_q tb hi T w hT).mono fun e w' h => h.at_
theorem children_is (h : TreeIs w tb hi S P) (id : Int) : Calls Try.prog 50 #[.pointer (some ⟨tb, 0, none⟩), .int .i64 id] w (IntsQ ((P.kids id (-1)).map (·.id)) w) := by
  obtain ⟨⟨T, hT, rfl, rfl⟩, hs⟩ := h
  exact (children_q tb hi T id w hT).mono fun e w' h => h.at_
end
/-- A row that no act of the tree touches. -/
def Apart (a : Option Addr) (n : Nat) (w : World) (S : List Nat) : Prop := ∀ g o, 0 < n → a = some ⟨g, o, none⟩ → g ∉ S ∧ g < w.heap.size
theorem Apart.new {a : Option Addr} {n : Nat} {w w' : World} {tb hi : Nat} {S : List Nat} {P : PT} (h : TreeIs w tb hi S P) (hf : ∀ g o, 0 < n → a = some ⟨g, o, none⟩ → w.heap.size ≤ g) (hl : ∀ g o, 0 < n → a = some ⟨g, o, none⟩ → g < w'.heap.size) : Apart a n w' S :=
  fun g o h0 he => ⟨fun hs => by have := h.lt g hs; have := hf g o h0 he; omega, hl g o h0 he⟩
theorem Apart.next {a : Option Addr} {n : Nat} {w w' : World} {S S' : List Nat} (h : Apart a n w S) (f : Fr S w w') (hS : ∀ y ∈ S', y ∈ S ∨ w.heap.size ≤ y) : Apart a n w' S' := fun g o h0 he => by
  obtain ⟨h1, h2⟩ := h g o h0 he
  refine ⟨fun hs => ?_, Nat.lt_of_lt_of_le h2 f.size⟩
  rcases hS g hs with h3 | h3
  · exact h1 h3
  · omega
theorem Apart.fr {a : Option Addr} {n : Nat} {w w' : World} {S : List Nat} (h : Apart a n w S) (f : Fr [] w w') : Apart a n w' S := fun g o h0 he => ⟨(h g o h0 he).1, Nat.lt_of_lt_of_le (h g o h0 he).2 f.size⟩
theorem RowsAt.frA {w w' : World} {a : Option Addr} {n k : Nat} {C : Nat → List Value} {S : List Nat} (h : RowsAt w a n k C) (f : Fr S w w') (hA : Apart a n w S) : RowsAt w' a n k C := by
  refine ⟨fun h0 => ?_⟩
  obtain ⟨b, o, he, hb, hc⟩ := h.at_ h0
  refine ⟨b, o, he, Nat.lt_of_lt_of_le hb f.size, fun i hi j v hj => ?_⟩
  rw [World.cell?_of_block (f.block b hb (hA b o h0 he).1)]
  exact hc i hi j v hj
theorem MarksAt.next {w w' : World} {a : Option Addr} {n : Nat} {M : List MarkD} {S : List Nat} (h : MarksAt w a n M) (f : Fr S w w') (hA : Apart a n w S) : MarksAt w' a n M := ⟨h.1, h.2.frA f hA⟩
theorem IntsAt.next {w w' : World} {a : Option Addr} {n : Nat} {M : List Int} {S : List Nat} (h : IntsAt w a n M) (f : Fr S w w') (hA : Apart a n w S) : IntsAt w' a n M := ⟨h.1, h.2.frA f hA⟩
theorem RowsAt.lt {w : World} {a : Option Addr} {n k : Nat} {C : Nat → List Value} (h : RowsAt w a n k C) : ∀ g o, 0 < n → a = some ⟨g, o, none⟩ → g < w.heap.size := fun g o h0 he => by
  obtain ⟨b, o', he', hb, _⟩ := h.at_ h0
  rw [he] at he'
  cases he'
  exact hb
/-- The run. -/
def runT (P : PT) (L : List ActD) : PT := L.foldl (fun P x => (actF P x.k x.id x.at_).2.2) P
theorem runT_succ (P : PT) (L : List ActD) (j : Nat) (h : j < L.length) : runT P (L.take (j + 1)) = (actF (runT P (L.take j)) (L.getD j default).k (L.getD j default).id (L.getD j default).at_).2.2 := by
  unfold runT
  rw [take_succD L j h, List.foldl_append]
  rfl
theorem runT_good {P : PT} {n : Nat} (g : GoodP P n) (L : List ActD) : GoodP (runT P L) (n + L.length) := by
  unfold runT
  induction L generalizing P n with
  | nil => exact g
  | cons x L ih =>
    have := ih (g.actF x.k x.id x.at_)
    rw [List.foldl_cons]
    rw [show n + (x :: L).length = n + 1 + L.length by simp; omega]
    exact this
end Go.Proofs.Ytclkahggfdnpgaa
set_option linter.unusedVariables false
set_option linter.unusedSimpArgs false
namespace Go.Proofs.Ytclkahggfdnpgaa
open Go.RowKit
theorem slackP_le (F : PI → FlatD) (L : List PI) : ∀ c : Int, L.foldl (fun n x => min n (slackI (F x).en x.m)) c ≤ c ∧ ∀ x ∈ L, L.foldl (fun n x => min n (slackI (F x).en x.m)) c ≤ slackI (F x).en x.m := by
  induction L with
  | nil => intro c; exact ⟨Int.le_refl _, fun x h => by cases h⟩
  | cons y L ih =>
    intro c
    rw [List.foldl_cons]
    have h1 := ih (min c (slackI (F y).en y.m))
    refine ⟨by omega, fun x hx => ?_⟩
    rcases List.mem_cons.1 hx with rfl | hx
    · omega
    · exact h1.2 x hx
theorem slackP_ge (F : PI → FlatD) (L : List PI) (b : Int) (h : ∀ x ∈ L, b ≤ slackI (F x).en x.m) : ∀ c : Int, b ≤ c → b ≤ L.foldl (fun n x => min n (slackI (F x).en x.m)) c := by
  induction L with
  | nil => intro c hc; exact hc
  | cons y L ih =>
    intro c hc
    rw [List.foldl_cons]
    exact ih (fun x hx => h x (List.mem_cons_of_mem _ hx)) _ (by have := h y (List.mem_cons_self ..); omega)
theorem GoodP.slack_nn {P : PT} {n : Nat} (g : GoodP P n) : 0 ≤ P.slack ∧ P.slack ≤ 1048576 := by
  refine ⟨slackP_ge P.f P.L 0 (fun x hx => (Go.Proofs.Ytclkahggfdnpgaa.slack_nn (g.fit x hx)).1) _ (by omega), (slackP_le P.f P.L _).1⟩
theorem tickF_go {P : PT} (h : 1 ≤ P.slack) : tickF P = (0, { P with L := P.L.map PI.tick }) := by unfold tickF; rw [if_neg (by omega)]
theorem tickF_due {P : PT} (h : P.slack < 1) : tickF P = (13, P) := by unfold tickF; rw [if_pos h]
end Go.Proofs.Ytclkahggfdnpgaa
set_option linter.unusedVariables false
set_option linter.unusedSimpArgs false
namespace Go.Proofs.Ytclkahggfdnpgaa
open Go.RowKit
theorem cell_frA {w w' : World} {b o : Nat} {S : List Nat} (hA : Apart (some ⟨b, o, none⟩) 1 w S) (f : Fr S w w') (j : Nat) : w'.cell? ⟨b, j, none⟩ = w.cell? ⟨b, j, none⟩ := by
  obtain ⟨h1, h2⟩ := hA b o (by omega) rfl
  exact World.cell?_of_block (f.block b h2 h1)
theorem zero77 : (Try.prog.info? 77).map (fun i => (i.size, i.zero.map (·.cells.size))) = some (3, some 3) := by kernel_rfl
theorem agg77 (w : World) : (isAgg 77).run Try.prog w = .ok true w := by kernel_rfl
theorem size77 : (Try.prog.info? 77).map (·.size) = some 3 := by kernel_rfl
end Go.Proofs.Ytclkahggfdnpgaa
set_option linter.unusedVariables false
set_option linter.unusedSimpArgs false
namespace Go.Proofs.Ytclkahggfdnpgaa
open Go.RowKit
theorem GoodP.parlt {P : PT} {n : Nat} (g : GoodP P n) {x : PI} (hx : x ∈ P.L) : x.par < x.id ∧ -1 ≤ x.par := by
  by_cases h0 : x.id = 0
  · obtain ⟨y, r, hL, h1, h2, _⟩ := g.root
    have : x = y := srt_uniq g.srt hx (by rw [hL]; simp) (by omega)
    subst this
    omega
  · have := g.par x hx h0
    omega
theorem GoodP.depthN_more {P : PT} {n : Nat} (g : GoodP P n) : ∀ (k : Nat) (id : Int), id < k → P.depthN (k + 1) id = P.depthN k id := by
  intro k
  induction k with
  | zero =>
    intro id h
    have : P.of id = none := of_none.2 (fun x hx he => by have := (g.lo x hx).1; omega)
    unfold PT.depthN
    rw [this]
  | succ k ih =>
    intro id h
    rcases ho : P.of id with _ | x
    · rw [PT.depthN, PT.depthN, ho]
    · obtain ⟨hx, hid⟩ := of_mem ho
      rw [PT.depthN, ho]
      rw [show P.depthN (k + 1) id = P.depthN k x.par + 1 by rw [PT.depthN, ho]]
      simp only
      rw [ih x.par (by have := (g.parlt hx).1; have : ((k + 1 : Nat) : Int) = k + 1 := by omega
                       omega)]
theorem GoodP.depth_step {P : PT} {n : Nat} (g : GoodP P n) (hn : n ≤ 900) {x : PI} (hx : x ∈ P.L) : P.depth x.id = P.depth x.par + 1 := by
  have h1 : P.depth x.id = P.depthN 999 x.par + 1 := by
    unfold PT.depth
    rw [show (1000 : Nat) = 999 + 1 from rfl, PT.depthN, of_some g.srt hx]
  rw [h1]
  unfold PT.depth
  have hlo := g.lo x hx
  have := g.next
  have h2 := g.parlt hx
  rw [show (1000 : Nat) = 999 + 1 from rfl, g.depthN_more 999 x.par (by omega)]
theorem GoodP.depth_neg {P : PT} {n : Nat} (g : GoodP P n) {id : Int} (h : id < 0) : P.depth id = -1 := by
  have : P.of id = none := of_none.2 (fun x hx he => by have := (g.lo x hx).1; omega)
  unfold PT.depth
  rw [show (1000 : Nat) = 999 + 1 from rfl, PT.depthN, this]
theorem GoodP.depth_le {P : PT} {n : Nat} (g : GoodP P n) (hn : n ≤ 900) : ∀ (k : Nat) (x : PI), x ∈ P.L → x.id < k → 0 ≤ P.depth x.id ∧ P.depth x.id ≤ x.tp ∧ (P.depth x.id = 0 ↔ x.id = 0) := by
  intro k
  induction k with
  | zero => intro x hx h; have := (g.lo x hx).1; omega
  | succ k ih =>
    intro x hx h
    have hs := g.depth_step hn hx
    by_cases h0 : x.id = 0
    · have hp : x.par = -1 := by have := g.parlt hx; omega
      rw [hp, g.depth_neg (id := -1) (by omega)] at hs
      omega
    · obtain ⟨h1, h2, h3, y, hy, h4, c, hc, hct⟩ := g.par x hx h0
      obtain ⟨c1, c2, c3, c4, c5⟩ := g.calls _ _ hc
      simp only [Prod.mk.injEq] at c1
      have := ih y hy (by omega)
      rw [h4] at this
      omega
theorem GoodP.depth_ok {P : PT} {n : Nat} (g : GoodP P n) (hn : n ≤ 900) {x : PI} (hx : x ∈ P.L) : 0 ≤ P.depth x.id ∧ P.depth x.id ≤ 7 ∧ (P.depth x.id = 0 ↔ x.id = 0) := by
  have hlo := g.lo x hx
  have h1 := g.depth_le hn (x.id.toNat + 1) x hx (by omega)
  have h2 := g.tp x hx
  have h3 := g.tmpls
  omega
end Go.Proofs.Ytclkahggfdnpgaa
