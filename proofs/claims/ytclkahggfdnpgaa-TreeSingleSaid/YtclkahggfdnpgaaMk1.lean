/- Marks, ties, events as plain data; the small functions. -/
import Derived.Test.YtclkahggfdnpgaaProg
import Derived.Test.YtclkahggfdnpgaaMem
import Derived.Deep.LoopGhost
import Derived.Deep.DeepCutAuto
import Derived.StillTailTactics
import Derived.Laws.AppendOwn
import Derived.Laws.OwnMore
set_option linter.unusedVariables false
set_option linter.unusedSimpArgs false
namespace Go.Proofs.Ytclkahggfdnpgaa
open Go.RowKit

structure MarkD where
  inn : Bool
  age : Int
  due : Int
deriving DecidableEq, Inhabited
structure TieD where
  kind : Int
  src : Int
  dst : Int
  time : Int
deriving DecidableEq, Inhabited
structure EvD where
  name : ByteArray
  group : ByteArray
  role : ByteArray
  inn : Bool
  done : Bool
  due : Int
deriving Inhabited
def MarkD.cells (x : MarkD) : List Value := [.bool x.inn, .int .i64 x.age, .int .i64 x.due]
def TieD.cells (t : TieD) : List Value := [.int .i64 t.kind, .int .i64 t.src, .int .i64 t.dst, .int .i64 t.time]
def EvD.cells (t : EvD) : List Value := [.string t.name, .string t.group, .string t.role, .bool t.inn, .bool t.done, .int .i64 t.due]
/-- A slice whose element i's cells are C i, k of them each. -/
structure RowsAt (w : World) (a : Option Addr) (n k : Nat) (C : Nat → List Value) : Prop where
  at_ : 0 < n → ∃ b o, a = some ⟨b, o, none⟩ ∧ b < w.heap.size ∧ ∀ i, i < n → ∀ j v, (C i)[j]? = some v → w.cell? ⟨b, o + i * k + j, none⟩ = some v
theorem RowsAt.fr {w w' : World} {a : Option Addr} {n k : Nat} {C : Nat → List Value} (h : RowsAt w a n k C) (f : Fr [] w w') : RowsAt w' a n k C := by
  refine ⟨fun h0 => ?_⟩
  obtain ⟨b, o, rfl, hb, hc⟩ := h.at_ h0
  refine ⟨b, o, rfl, Nat.lt_of_lt_of_le hb f.size, fun i hi j v hj => ?_⟩
  rw [World.cell?_of_block (f.block b hb (by simp))]
  exact hc i hi j v hj
def MarksAt (w : World) (a : Option Addr) (n : Nat) (M : List MarkD) : Prop := M.length = n ∧ RowsAt w a n 3 (fun i => (M.getD i default).cells)
def TiesAt (w : World) (a : Option Addr) (n : Nat) (T : List TieD) : Prop := T.length = n ∧ RowsAt w a n 4 (fun i => (T.getD i default).cells)
def EvsAt (w : World) (a : Option Addr) (n : Nat) (E : List EvD) : Prop := E.length = n ∧ RowsAt w a n 6 (fun i => (E.getD i default).cells)
theorem MarksAt.fr {w w' : World} {a : Option Addr} {n : Nat} {M : List MarkD} (h : MarksAt w a n M) (f : Fr [] w w') : MarksAt w' a n M := ⟨h.1, h.2.fr f⟩
theorem TiesAt.fr {w w' : World} {a : Option Addr} {n : Nat} {M : List TieD} (h : TiesAt w a n M) (f : Fr [] w w') : TiesAt w' a n M := ⟨h.1, h.2.fr f⟩
theorem EvsAt.fr {w w' : World} {a : Option Addr} {n : Nat} {M : List EvD} (h : EvsAt w a n M) (f : Fr [] w w') : EvsAt w' a n M := ⟨h.1, h.2.fr f⟩
def MarkD.val (x : MarkD) : Value := .agg #[.bool x.inn, .int .i64 x.age, .int .i64 x.due]
def TieD.val (t : TieD) : Value := .agg #[.int .i64 t.kind, .int .i64 t.src, .int .i64 t.dst, .int .i64 t.time]
def withinB (n hi : Int) : Bool := decide (n ≥ -1) && decide (n ≤ hi)
theorem ret_bool {a b : Bool} (h : a = b) : Ending.returned (.bool a) = Ending.returned (.bool b) := by rw [h]
theorem within_any (n hi : Int) (w : World) : Calls Try.prog 69 #[.int .i64 n, .int .i64 hi] w fun e w' => e = .returned (.bool (withinB n hi)) ∧ w = w' := by
  by_cases h1 : n ≥ -1
  · have d1 : decide (n ≥ -1) = true := by simpa using h1
    have hb : withinB n hi = decide (n ≤ hi) := by unfold withinB; rw [d1, Bool.true_and]
    rw [hb]
    clear hb h1
    by_cases h2 : n ≤ hi
    · have d2 : decide (n ≤ hi) = true := by simpa using h2
      rw [d2]
      go_enter Try.func69, Try.ntmps69
      go_wp2
      go_ret
      exact ⟨rfl, rfl⟩
    · have d2 : decide (n ≤ hi) = false := by simpa using h2
      rw [d2]
      go_enter Try.func69, Try.ntmps69
      go_wp2
      go_ret
      exact ⟨rfl, rfl⟩
  · have d1 : decide (n ≥ -1) = false := by simpa using h1
    have hb : withinB n hi = false := by unfold withinB; rw [d1, Bool.false_and]
    rw [hb]
    go_enter Try.func69, Try.ntmps69
    go_wp2
    go_ret
    exact ⟨rfl, rfl⟩
def MarkD.bad (x : MarkD) : Bool := !withinB x.age 65536 || !withinB x.due 1048576
def MarkD.pend (x : MarkD) : Bool := x.inn && decide (x.due ≥ 0)
theorem badf_any (x : MarkD) (w : World) : Calls Try.prog 68 #[x.val] w fun e w' => e = .returned (.bool x.bad) ∧ Fr [] w w' := by
  have C1 := fun w => within_any x.age 65536 w
  have C2 := fun w => within_any x.due 1048576 w
  unfold MarkD.bad MarkD.val
  generalize withinB x.age 65536 = p at C1 ⊢
  generalize withinB x.due 1048576 = q at C2 ⊢
  have D1 := Lib.hid C1
  have D2 := Lib.hid C2
  clear C1 C2
  have hr := (Fr.refl [] w).alloc (.cells #[.bool x.inn, .int .i64 x.age, .int .i64 x.due] 52)
  have HR := Lib.hid hr
  clear hr
  cases p
  · go_enter Try.func68, Try.ntmps68
    go_wp2_with fail
    refine (D1.out _).mono ?_
    rintro e w' ⟨rfl, rfl⟩
    go_wp2_with fail
    go_ret
    exact ⟨rfl, HR.out⟩
  · go_enter Try.func68, Try.ntmps68
    go_wp2_with fail
    refine (D1.out _).mono ?_
    rintro e w' ⟨rfl, rfl⟩
    go_wp2_with fail
    refine (D2.out _).mono ?_
    rintro e w' ⟨rfl, rfl⟩
    go_wp2_with fail
    go_ret
    exact ⟨rfl, HR.out⟩
theorem pendf_any (x : MarkD) (w : World) : Calls Try.prog 70 #[x.val] w fun e w' => e = .returned (.bool x.pend) ∧ Fr [] w w' := by
  unfold MarkD.pend MarkD.val
  have hr := (Fr.refl [] w).alloc (.cells #[.bool x.inn, .int .i64 x.age, .int .i64 x.due] 52)
  have HR := Lib.hid hr
  clear hr
  cases hi : x.inn
  · rw [hi] at HR
    go_enter Try.func70, Try.ntmps70
    go_wp2_with fail
    go_ret
    exact ⟨rfl, HR.out⟩
  · rw [hi] at HR
    go_enter Try.func70, Try.ntmps70
    go_wp2_with fail
    go_ret
    exact ⟨rfl, HR.out⟩
theorem agg52 (w : World) : (isAgg 52).run Try.prog w = .ok true w := by kernel_rfl
theorem size52 : (Try.prog.info? 52).map (·.size) = some 3 := by kernel_rfl
theorem zero52 : (Try.prog.info? 52).map (fun i => (i.size, i.zero.map (·.cells.size))) = some (3, some 3) := by kernel_rfl
theorem getD_at {α : Type} [Inhabited α] (M : List α) (j : Nat) (h : j < M.length) : M[j]? = some (M.getD j default) := by
  rw [List.getD_eq_getElem?_getD, List.getElem?_eq_getElem h]
  rfl
theorem take_succD {α : Type} [Inhabited α] (M : List α) (j : Nat) (h : j < M.length) : M.take (j + 1) = M.take j ++ [M.getD j default] := by
  have h2 := getD_at M j h
  have hl := List.getElem?_eq_some_iff.1 h2
  rw [List.take_succ_eq_append_getElem hl.1, hl.2]
theorem index_bad (a : Option Addr) (n c : Nat) (M : List MarkD) (w : World) (h : MarksAt w a n M) (hn : n ≤ 100000) :
    Calls Try.prog 86 #[.slice a n c, .func (.func 68) #[] #[]] w fun e w' => ∃ r : Int, e = .returned (.int .i64 r) ∧ decide (r ≥ 0) = M.any MarkD.bad ∧ Fr [] w w' := by
  obtain ⟨hl, hR⟩ := h
  have R := Lib.hid hR
  have HL := Lib.hid hl
  clear hR hl
  go_enter Try.func86, Try.ntmps86
  go_wp2_with fail
  go_loopg [8] n (fun k i wr => ∃ j : Nat, k = n - j ∧ j ≤ n ∧ i = .int .i64 j ∧ (M.take j).any MarkD.bad = false ∧ Fr [] w wr)
  case atStart => exact ⟨0, rfl, by omega, rfl, by simp, Fr.refl _ _⟩
  case round =>
    obtain ⟨j, rfl, hj, rfl, hp, hF⟩ := hrel
    have P := Lib.hid hp
    have F := Lib.hid hF
    clear hp hF
    by_cases hjn : j < n
    · have hd : decide (j < n) = true := by rw [decide_eq_true_iff]; omega
      obtain ⟨b1, o1, rfl, hb1, hc1⟩ := (R.out.fr F.out).at_ (by omega)
      have hc := hc1 j hjn
      have ht := take_succD M j (by rw [HL.out]; exact hjn)
      generalize M.getD j default = x at hc ht
      have hc' : ∀ k v, ([.bool x.inn, .int .i64 x.age, .int .i64 x.due] : List Value)[k]? = some v → wr.cell? ⟨b1, o1 + j * 3 + k, none⟩ = some v := hc
      have HC := Lib.hid hc'
      have HT := Lib.hid ht
      clear hc hc' hc1 ht
      go_wp2_with ((with_reducible refine wpList_load_at rfl 52 (.tmp 14) rfl agg52 3 size52 b1 (o1 + j * 3) [.bool x.inn, .int .i64 x.age, .int .i64 x.due] rfl HC.out ?_ ?_); exact rfl)
      refine (badf_any x wr).mono ?_
      rintro e w2 ⟨rfl, hF2⟩
      have F2 := Lib.hid (F.out.trans hF2 (by simp))
      clear hF2
      by_cases hx : x.bad = true
      · rw [hx]
        go_wp2_with fail
        go_ret
        refine ⟨j, rfl, ?_, F2.out⟩
        have hm : M.any MarkD.bad = true := by
          rw [← List.take_append_drop (j + 1) M, HT.out, List.any_append, List.any_append]
          simp [hx]
        rw [hm, decide_eq_true_iff]
        omega
      · have hx : x.bad = false := by simpa using hx
        rw [hx]
        go_wp2_with fail
        go_roundg (n - (j + 1))
        case measure => omega
        case rel => exact ⟨j + 1, rfl, by omega, rfl, by rw [HT.out, List.any_append, P.out]; simp [hx], F2.out⟩
    · have hd : decide (j < n) = false := by rw [decide_eq_false_iff_not]; omega
      have hfull : M.take j = M := List.take_of_length_le (by rw [HL.out]; omega)
      have hp := P.out
      rw [hfull] at hp
      have HP := Lib.hid hp
      clear hfull hp
      go_wp2_with fail
      go_ret
      exact ⟨-1, rfl, by rw [HP.out]; decide, F.out⟩
theorem has_bad (a : Option Addr) (n c : Nat) (M : List MarkD) (w : World) (h : MarksAt w a n M) (hn : n ≤ 100000) :
    Calls Try.prog 67 #[.slice a n c, .func (.func 68) #[] #[]] w fun e w' => e = .returned (.bool (M.any MarkD.bad)) ∧ Fr [] w w' := by
  have C1 := index_bad a n c M w h hn
  clear h
  go_enter Try.func67, Try.ntmps67
  go_wp2_with fail
  refine C1.mono ?_
  rintro e w2 ⟨r, rfl, hr, hF⟩
  go_wp2_with fail
  go_ret
  exact ⟨rfl, hF⟩
theorem index_pend (a : Option Addr) (n c : Nat) (M : List MarkD) (w : World) (h : MarksAt w a n M) (hn : n ≤ 100000) :
    Calls Try.prog 86 #[.slice a n c, .func (.func 70) #[] #[]] w fun e w' => ∃ r : Int, e = .returned (.int .i64 r) ∧ decide (r ≥ 0) = M.any MarkD.pend ∧ Fr [] w w' := by
  obtain ⟨hl, hR⟩ := h
  have R := Lib.hid hR
  have HL := Lib.hid hl
  clear hR hl
  go_enter Try.func86, Try.ntmps86
  go_wp2_with fail
  go_loopg [8] n (fun k i wr => ∃ j : Nat, k = n - j ∧ j ≤ n ∧ i = .int .i64 j ∧ (M.take j).any MarkD.pend = false ∧ Fr [] w wr)
  case atStart => exact ⟨0, rfl, by omega, rfl, by simp, Fr.refl _ _⟩
  case round =>
    obtain ⟨j, rfl, hj, rfl, hp, hF⟩ := hrel
    have P := Lib.hid hp
    have F := Lib.hid hF
    clear hp hF
    by_cases hjn : j < n
    · have hd : decide (j < n) = true := by rw [decide_eq_true_iff]; omega
      obtain ⟨b1, o1, rfl, hb1, hc1⟩ := (R.out.fr F.out).at_ (by omega)
      have hc := hc1 j hjn
      have ht := take_succD M j (by rw [HL.out]; exact hjn)
      generalize M.getD j default = x at hc ht
      have hc' : ∀ k v, ([.bool x.inn, .int .i64 x.age, .int .i64 x.due] : List Value)[k]? = some v → wr.cell? ⟨b1, o1 + j * 3 + k, none⟩ = some v := hc
      have HC := Lib.hid hc'
      have HT := Lib.hid ht
      clear hc hc' hc1 ht
      go_wp2_with ((with_reducible refine wpList_load_at rfl 52 (.tmp 14) rfl agg52 3 size52 b1 (o1 + j * 3) [.bool x.inn, .int .i64 x.age, .int .i64 x.due] rfl HC.out ?_ ?_); exact rfl)
      refine (pendf_any x wr).mono ?_
      rintro e w2 ⟨rfl, hF2⟩
      have F2 := Lib.hid (F.out.trans hF2 (by simp))
      clear hF2
      by_cases hx : x.pend = true
      · rw [hx]
        go_wp2_with fail
        go_ret
        refine ⟨j, rfl, ?_, F2.out⟩
        have hm : M.any MarkD.pend = true := by
          rw [← List.take_append_drop (j + 1) M, HT.out, List.any_append, List.any_append]
          simp [hx]
        rw [hm, decide_eq_true_iff]
        omega
      · have hx : x.pend = false := by simpa using hx
        rw [hx]
        go_wp2_with fail
        go_roundg (n - (j + 1))
        case measure => omega
        case rel => exact ⟨j + 1, rfl, by omega, rfl, by rw [HT.out, List.any_append, P.out]; simp [hx], F2.out⟩
    · have hd : decide (j < n) = false := by rw [decide_eq_false_iff_not]; omega
      have hfull : M.take j = M := List.take_of_length_le (by rw [HL.out]; omega)
      have hp := P.out
      rw [hfull] at hp
      have HP := Lib.hid hp
      clear hfull hp
      go_wp2_with fail
      go_ret
      exact ⟨-1, rfl, by rw [HP.out]; decide, F.out⟩
theorem has_pend (a : Option Addr) (n c : Nat) (M : List MarkD) (w : World) (h : MarksAt w a n M) (hn : n ≤ 100000) :
    Calls Try.prog 67 #[.slice a n c, .func (.func 70) #[] #[]] w fun e w' => e = .returned (.bool (M.any MarkD.pend)) ∧ Fr [] w w' := by
  have C1 := index_pend a n c M w h hn
  clear h
  go_enter Try.func67, Try.ntmps67
  go_wp2_with fail
  refine C1.mono ?_
  rintro e w2 ⟨r, rfl, hr, hF⟩
  go_wp2_with fail
  go_ret
  exact ⟨rfl, hF⟩
/-- A graph without groups, as it lies: its events, its ties. -/
structure FlatD where
  ea : Option Addr
  en : Nat
  ec : Nat
  ta : Option Addr
  tn : Nat
  tc : Nat
  E : List EvD
  T : List TieD
def FlatD.val (f : FlatD) : Value := .agg #[.slice f.ea f.en f.ec, .slice f.ta f.tn f.tc]
structure FlatAt (w : World) (f : FlatD) : Prop where
  evs : EvsAt w f.ea f.en f.E
  ties : TiesAt w f.ta f.tn f.T
  few : f.en ≤ 100000
  few2 : f.tn ≤ 100000
theorem FlatAt.fr {w w' : World} {f : FlatD} (h : FlatAt w f) (g : Fr [] w w') : FlatAt w' f := ⟨h.evs.fr g, h.ties.fr g, h.few, h.few2⟩
def fitsB (k : Nat) (M : List MarkD) : Bool := decide (M.length = k) && !M.any MarkD.bad
theorem fits_any (f : FlatD) (a : Option Addr) (n c : Nat) (M : List MarkD) (w : World) (h : MarksAt w a n M) (hn : n ≤ 100000) :
    Calls Try.prog 20 #[f.val, .slice a n c] w fun e w' => e = .returned (.bool (fitsB f.en M)) ∧ Fr [] w w' := by
  have hl := h.1
  have hr := (Fr.refl [] w).alloc (.cells #[.slice f.ea f.en f.ec, .slice f.ta f.tn f.tc] 25)
  have C1 := has_bad a n c M _ (h.fr hr) hn
  have HR := Lib.hid hr
  have hb : fitsB f.en M = (decide (n = f.en) && !M.any MarkD.bad) := by unfold fitsB; rw [hl]
  rw [hb]
  unfold FlatD.val
  clear h hr hl hb
  generalize M.any MarkD.bad = p at C1 ⊢
  by_cases he : n = f.en
  · subst he
    rw [decide_eq_true rfl]
    go_enter Try.func20, Try.ntmps20
    go_wp2_with fail
    refine C1.mono ?_
    rintro e w2 ⟨rfl, hF⟩
    go_wp2_with fail
    go_ret
    exact ⟨ret_bool (by simp), HR.out.trans hF (by simp)⟩
  · have hd : ((n : Int) == (f.en : Int)) = false := by rw [beq_eq_false_iff_ne]; omega
    rw [decide_eq_false he]
    go_enter Try.func20, Try.ntmps20
    go_wp2_with fail
    go_ret
    exact ⟨ret_bool (by simp), HR.out⟩
def accB (k : Nat) (M : List MarkD) : Bool := fitsB k M && !M.any MarkD.pend
theorem acc_any (f : FlatD) (a : Option Addr) (n c : Nat) (M : List MarkD) (w : World) (h : MarksAt w a n M) (hn : n ≤ 100000) :
    Calls Try.prog 24 #[f.val, .slice a n c] w fun e w' => e = .returned (.bool (accB f.en M)) ∧ Fr [] w w' := by
  have hr := (Fr.refl [] w).alloc (.cells #[.slice f.ea f.en f.ec, .slice f.ta f.tn f.tc] 25)
  have h1 := h.fr hr
  have C1 := fits_any f a n c M _ h1 hn
  have C2 := Lib.hid (fun w' hf => has_pend a n c M w' (h1.fr hf) hn)
  have HR := Lib.hid hr
  unfold accB
  clear h hr h1
  generalize fitsB f.en M = q at C1 ⊢
  unfold FlatD.val at C1 ⊢
  go_enter Try.func24, Try.ntmps24
  go_wp2_with fail
  refine C1.mono ?_
  rintro e w2 ⟨rfl, hF⟩
  cases q
  · go_wp2_with fail
    go_ret
    exact ⟨rfl, HR.out.trans hF (by simp)⟩
  · go_wp2_with fail
    refine (C2.out w2 hF).mono ?_
    rintro e w3 ⟨rfl, hF2⟩
    go_wp2_with fail
    go_ret
    exact ⟨rfl, (HR.out.trans hF (by simp)).trans hF2 (by simp)⟩
end Go.Proofs.Ytclkahggfdnpgaa
