/- All. -/
import Derived.Test.YtclkahggfdnpgaaMk10
set_option linter.unusedVariables false
set_option linter.unusedSimpArgs false
namespace Go.Proofs.Ytclkahggfdnpgaa
open Go.RowKit
theorem infoInt : (Try.prog.info? 3).map (fun i => (i.zero, i.size, i.bytes)) = some (some (.int .i64 0), 1, 8) := by kernel_rfl
def intV (k : Nat) : Value := .int .i64 k
def allL (f : FlatD) (M : List MarkD) (j : Nat) : List Nat := (List.range j).filter fun i => enabB f M i
theorem allL_le (f : FlatD) (M : List MarkD) (j : Nat) : (allL f M j).length ≤ j := by
  have := List.length_filter_le (fun i : Nat => enabB f M i) (List.range j)
  rw [List.length_range] at this
  exact this
theorem allL_yes (f : FlatD) (M : List MarkD) (j : Nat) (h : enabB f M j = true) : allL f M (j + 1) = allL f M j ++ [j] := by
  unfold allL; rw [List.range_succ, List.filter_append]; simp [h]
theorem allL_no (f : FlatD) (M : List MarkD) (j : Nat) (h : enabB f M j = false) : allL f M (j + 1) = allL f M j := by
  unfold allL; rw [List.range_succ, List.filter_append]; simp [h]
def AllP (f : FlatD) (M : List MarkD) (n : Nat) (w : World) (e : Ending) (w' : World) : Prop := ∃ v, e = .returned v ∧ w'.ownsRow w.heap.size 3 1 v (allL f M n).length ((allL f M n).map intV) ∧ Fr [] w w'
theorem own_mono {w : World} {base base' : Nat} {e : TypeId} {size n : Nat} {v : Value} {xs : List Value} (h : w.ownsRow base e size v n xs) (hb : base' ≤ base) : w.ownsRow base' e size v n xs := by
  refine ⟨h.1, ?_⟩
  rcases h.2 with h2 | ⟨g, cap, cur, rfl, hg, r⟩
  · exact .inl h2
  · exact .inr ⟨g, cap, cur, rfl, Nat.le_trans hb hg, r⟩
set_option maxHeartbeats 1000000 in
theorem all_any (f : FlatD) (a : Option Addr) (n c : Nat) (M : List MarkD) (w : World) (hf : FlatAt w f) (h : MarksAt w a n M) (hn : n ≤ 100000) :
    Calls Try.prog 17 #[f.val, .slice a n c] w (AllP f M n w) := by
  obtain ⟨i0, hi, hz0, hz1, hz2⟩ := info_parts infoInt
  have HI := Lib.hid hi
  have HZ0 := Lib.hid hz0
  have HZ1 := Lib.hid hz1
  have HZ2 := Lib.hid hz2
  clear hi hz0 hz1 hz2
  have hr := (Fr.refl [] w).alloc (.cells #[.slice f.ea f.en f.ec, .slice f.ta f.tn f.tc] 25)
  have HR := Lib.hid hr
  have rb := Row.new w [.slice f.ea f.en f.ec, .slice f.ta f.tn f.tc] 25
  have RB := Lib.hid rb
  have HF := Lib.hid hf
  have HM := Lib.hid h
  have HW := Lib.hid (World.ownsRow_nil (w.alloc (.cells #[.slice f.ea f.en f.ec, .slice f.ta f.tn f.tc] 25)) (w.heap.size + 1) 3 1)
  clear hf h hr rb
  unfold FlatD.val
  go_enter Try.func17, Try.ntmps17
  go_wp2_with fail
  go_loopg [5, 9] n (fun k v i wr => ∃ (j : Nat), k = n - j ∧ j ≤ n ∧ i = .int .i64 j ∧ wr.ownsRow (w.heap.size + 1) 3 1 v (allL f M j).length ((allL f M j).map intV) ∧ Fr [] (w.alloc (.cells #[.slice f.ea f.en f.ec, .slice f.ta f.tn f.tc] 25)) wr)
  case atStart => exact ⟨0, rfl, by omega, rfl, HW.out, Fr.refl _ _⟩
  case round =>
    obtain ⟨j, rfl, hj, rfl, hO, hF⟩ := hrel
    obtain ⟨b, d, rfl⟩ := own_slice hO
    have O := Lib.hid hO
    have F := Lib.hid hF
    have FW := Lib.hid (HR.out.trans hF (by simp))
    have x0 : wr.cell? ⟨w.heap.size, 0, none⟩ = some (.slice f.ea f.en f.ec) := (RB.out.fr hF (by simp)).cell 0
    have x1 : wr.cell? ⟨w.heap.size, 1, none⟩ = some (.slice f.ta f.tn f.tc) := (RB.out.fr hF (by simp)).cell 1
    have hll := allL_le f M j
    clear hO hF
    by_cases hjn : j < n
    · have hd : decide (j < n) = true := by rw [decide_eq_true_iff]; omega
      have C1 := enab_any f a n c M j wr (HF.out.fr FW.out) (HM.out.fr FW.out) hn
      unfold FlatD.val at C1
      go_wp2_with fail
      refine C1.mono ?_
      rintro e w2 ⟨rfl, hF2⟩
      have O2 := Lib.hid (own_fr O.out hF2)
      have F2 := Lib.hid (F.out.trans hF2 (by simp))
      have hws : w.heap.size ≤ w2.heap.size := (FW.out.trans hF2 (by simp)).size
      clear C1 hF2
      by_cases he : enabB f M j = true
      · have HY := Lib.hid (allL_yes f M j he)
        rw [he]
        clear he
        have hO4 : (w2.alloc (.cells #[.int .i64 j] 3)).ownsRow (w.heap.size + 1) 3 1 (.slice b (allL f M j).length d) (allL f M j).length ((allL f M j).map intV) := own_fr O2.out ((Fr.refl [] w2).alloc _)
        have hnew : ∀ i u, ([.int .i64 j] : List Value)[i]? = some u → (w2.alloc (.cells #[.int .i64 j] 3)).cell? ((⟨w2.heap.size, 0, none⟩ : Addr).add i) = some u := by
          intro i u hi
          rw [Addr_add, Nat.zero_add]
          exact ((Row.new w2 [.int .i64 j] 3).cell i).trans hi
        have O4 := Lib.hid hO4
        have NW := Lib.hid hnew
        clear hO4 hnew
        go_wp2_with (at_builtin; refine wpList_append_own _ rfl _ _ 33 rfl (w.heap.size + 1) 3 i0 (.int .i64 0) 1 8 Try.underlying33 HI.out HZ0.out HZ1.out HZ2.out rfl (by decide) _ _ _ rfl O4.out ⟨w2.heap.size, 0, none⟩ 1 1 [.int .i64 j] rfl rfl NW.out (by simp [Value.oneCell']) ?c3 ?c4 ?c5 ?_)
        case c3 => unfold maxLen; omega
        case c4 => omega
        case c5 => first | omega | (simp; omega)
        intro v' w5 hown' hgrow _
        have hown2 : w5.ownsRow (w.heap.size + 1) 3 1 v' (allL f M (j + 1)).length ((allL f M (j + 1)).map intV) := by
          rw [HY.out, List.length_append, List.map_append]
          exact hown'
        have hF5 : Fr [] (w.alloc (.cells #[.slice f.ea f.en f.ec, .slice f.ta f.tn f.tc] 25)) w5 := by
          refine (F2.out.alloc (.cells #[.int .i64 j] 3)).trans (Fr.of_grown hgrow ((Value.ownBlock (.slice b (allL f M j).length d)).toList) (fun k hk => .inl (by simp [hk]))) ?_
          intro k hk
          simp only [Option.mem_toList] at hk
          have := (O4.out.lt k hk).1
          exact .inr (by simp; omega)
        have O5 := Lib.hid hown2
        have F5 := Lib.hid hF5
        clear hown' hgrow hown2 hF5
        go_wp2_with fail
        go_roundg (n - (j + 1))
        case measure => omega
        case rel => exact ⟨j + 1, rfl, by omega, rfl, O5.out, F5.out⟩
      · have he : enabB f M j = false := by simpa using he
        have HN := Lib.hid (allL_no f M j he)
        rw [he]
        clear he
        go_wp2_with fail
        go_roundg (n - (j + 1))
        case measure => omega
        case rel => exact ⟨j + 1, rfl, by omega, rfl, by rw [HN.out]; exact O2.out, F2.out⟩
    · have hd : decide (j < n) = false := by rw [decide_eq_false_iff_not]; omega
      obtain rfl : j = n := by omega
      go_wp2_with fail
      go_ret
      exact ⟨_, rfl, own_mono O.out (by omega), FW.out⟩
end Go.Proofs.Ytclkahggfdnpgaa
