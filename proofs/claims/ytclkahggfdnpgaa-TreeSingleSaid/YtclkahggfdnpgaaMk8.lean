/- An event is done: why not. -/
import Derived.Test.YtclkahggfdnpgaaMk7
set_option linter.unusedVariables false
set_option linter.unusedSimpArgs false
namespace Go.Proofs.Ytclkahggfdnpgaa
open Go.RowKit
theorem do_fit (f : FlatD) (a : Option Addr) (n c : Nat) (M : List MarkD) (i : Int) (w : World) (hf : FlatAt w f) (h : MarksAt w a n M) (hn : n ≤ 100000) (hfit : fitsB f.en M = false) :
    Calls Try.prog 29 #[f.val, .slice a n c, .int .i64 i] w fun e w' => e = .returned (.tuple #[.slice none 0 0, .int .i64 1]) ∧ Fr [] w w' := by
  have hr := (Fr.refl [] w).alloc (.cells #[.slice f.ea f.en f.ec, .slice f.ta f.tn f.tc] 25)
  have C1 := fits_any f a n c M _ (h.fr hr) hn
  have HR := Lib.hid hr
  rw [hfit] at C1
  clear h hr hfit hf
  unfold FlatD.val at C1 ⊢
  go_enter Try.func29, Try.ntmps29
  go_wp2_with fail
  refine C1.mono ?_
  rintro e w2 ⟨rfl, hF⟩
  go_wp2_with fail
  go_ret2
  exact ⟨rfl, HR.out.trans hF (by simp)⟩
theorem do_range (f : FlatD) (a : Option Addr) (n c : Nat) (M : List MarkD) (i : Int) (w : World) (hf : FlatAt w f) (h : MarksAt w a n M) (hn : n ≤ 100000) (hfit : fitsB f.en M = true) (hi : i < 0 ∨ n ≤ i) :
    Calls Try.prog 29 #[f.val, .slice a n c, .int .i64 i] w fun e w' => e = .returned (.tuple #[.slice none 0 0, .int .i64 3]) ∧ Fr [] w w' := by
  have hr := (Fr.refl [] w).alloc (.cells #[.slice f.ea f.en f.ec, .slice f.ta f.tn f.tc] 25)
  have C1 := fits_any f a n c M _ (h.fr hr) hn
  have HR := Lib.hid hr
  rw [hfit] at C1
  clear h hr hfit hf
  unfold FlatD.val at C1 ⊢
  by_cases h0 : i < 0
  · have d1 : decide (i < 0) = true := by simpa using h0
    go_enter Try.func29, Try.ntmps29
    go_wp2_with fail
    refine C1.mono ?_
    rintro e w2 ⟨rfl, hF⟩
    go_wp2_with fail
    go_ret2
    exact ⟨rfl, HR.out.trans hF (by simp)⟩
  · have d1 : decide (i < 0) = false := by simpa using h0
    have d2 : decide (i ≥ n) = true := by rw [decide_eq_true_iff]; omega
    clear hi
    go_enter Try.func29, Try.ntmps29
    go_wp2_with fail
    refine C1.mono ?_
    rintro e w2 ⟨rfl, hF⟩
    go_wp2_with fail
    go_ret2
    exact ⟨rfl, HR.out.trans hF (by simp)⟩
theorem do_off (f : FlatD) (a : Option Addr) (n c : Nat) (M : List MarkD) (k : Nat) (w : World) (hf : FlatAt w f) (h : MarksAt w a n M) (hn : n ≤ 100000) (hfit : fitsB f.en M = true) (hk : k < n) (he : enabB f M k = false) :
    Calls Try.prog 29 #[f.val, .slice a n c, .int .i64 k] w fun e w' => e = .returned (.tuple #[.slice none 0 0, .int .i64 11]) ∧ Fr [] w w' := by
  have hr := (Fr.refl [] w).alloc (.cells #[.slice f.ea f.en f.ec, .slice f.ta f.tn f.tc] 25)
  have C1 := fits_any f a n c M _ (h.fr hr) hn
  have HR := Lib.hid hr
  have C2 := Lib.hid (fun w' (g : Fr [] (w.alloc (.cells #[.slice f.ea f.en f.ec, .slice f.ta f.tn f.tc] 25)) w') => enab_any f a n c M k w' ((hf.fr hr).fr g) ((h.fr hr).fr g) hn)
  rw [hfit] at C1
  rw [he] at C2
  have d1 : decide ((k : Int) < 0) = false := by rw [decide_eq_false_iff_not]; omega
  have d2 : decide ((k : Int) ≥ n) = false := by rw [decide_eq_false_iff_not]; omega
  have d3 : decide (k ≥ n) = false := by rw [decide_eq_false_iff_not]; omega
  clear h hr hfit hf he
  unfold FlatD.val at C1 C2 ⊢
  go_enter Try.func29, Try.ntmps29
  go_wp2_with fail
  refine C1.mono ?_
  rintro e w2 ⟨rfl, hF⟩
  have f0 : w2.cell? ⟨w.heap.size, 0, none⟩ = some (.slice f.ea f.en f.ec) := cell_fr ((Row.new w [.slice f.ea f.en f.ec, .slice f.ta f.tn f.tc] 25).cell 0) hF
  have f1 : w2.cell? ⟨w.heap.size, 1, none⟩ = some (.slice f.ta f.tn f.tc) := cell_fr ((Row.new w [.slice f.ea f.en f.ec, .slice f.ta f.tn f.tc] 25).cell 1) hF
  have C3 := C2.out w2 hF
  have F2 := Lib.hid (HR.out.trans hF (by simp))
  clear hF
  go_wp2_with fail
  refine C3.mono ?_
  rintro e w3 ⟨rfl, hF⟩
  go_wp2_with fail
  go_ret2
  exact ⟨rfl, F2.out.trans hF (by simp)⟩
def clampD (n : Int) : Int := if n < 0 then 0 else if n < 1048576 then n else 1048576
def applyK (kind : Int) (t : TieD) (x : MarkD) : MarkD :=
  if kind = 2 then (if x.due < 0 ∨ t.time < x.due then { x with due := clampD t.time } else x) else { x with inn := decide (kind = 3) }
def stepK (kind i : Int) (k : Nat) (out : List MarkD) (t : TieD) : List MarkD :=
  if t.kind = kind ∧ t.src = i ∧ t.between k = true then out.set t.dst.toNat (applyK kind t (out.getD t.dst.toNat default)) else out
def doK (kind i : Int) (k : Nat) (T : List TieD) (out : List MarkD) : List MarkD := T.foldl (stepK kind i k) out
def doneM (M : List MarkD) (i : Nat) : List MarkD := M.set i { (M.getD i default) with age := 0, due := -1 }
def doM (f : FlatD) (M : List MarkD) (i : Nat) : List MarkD := doK 3 i f.en f.T (doK 4 i f.en f.T (doK 2 i f.en f.T (doneM M i)))
theorem stepK_length (kind i : Int) (k : Nat) (out : List MarkD) (t : TieD) : (stepK kind i k out t).length = out.length := by
  unfold stepK
  split
  · rw [List.length_set]
  · rfl
theorem doK_length (kind i : Int) (k : Nat) (T : List TieD) : ∀ out : List MarkD, (doK kind i k T out).length = out.length := by
  induction T with
  | nil => intro out; rfl
  | cons t T ih => intro out; show (doK kind i k T (stepK kind i k out t)).length = _; rw [ih, stepK_length]
theorem doK_succ (kind i : Int) (k : Nat) (T : List TieD) (j : Nat) (h : j < T.length) (out : List MarkD) : doK kind i k (T.take (j + 1)) out = stepK kind i k (doK kind i k (T.take j) out) (T.getD j default) := by
  unfold doK
  rw [take_succD T j h, List.foldl_append]
  rfl
end Go.Proofs.Ytclkahggfdnpgaa
