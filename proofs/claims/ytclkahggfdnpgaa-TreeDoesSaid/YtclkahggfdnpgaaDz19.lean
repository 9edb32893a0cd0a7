/- Parts of the proof: MkR. (Merged by pack.py.) -/
import Derived.Test.YtclkahggfdnpgaaDz4
import Derived.Test.YtclkahggfdnpgaaDz18
set_option linter.unusedVariables false
set_option linter.unusedSimpArgs false
namespace Go.Proofs.Ytclkahggfdnpgaa
open Go.RowKit
theorem next_ownF {N : List MarkD} {n c : Nat} {a : Option Addr} {w w' : World} {base : Nat} (hl : N.length = n) (h : w'.ownsRow base 52 3 (.slice a n c) n (mcells N)) (hF : Fr [] w w') (hb : w.heap.size ≤ base) : NextF N 0 w (.returned (.tuple #[.slice a n c, .int .i64 0])) w' :=
  ⟨a, c, by rw [if_pos rfl, hl], by rw [if_pos rfl, if_pos rfl, hl]; exact marks_of_own h, hF, fun g o he => Nat.le_trans hb (h.lt g (by rw [he]; rfl)).1⟩
set_option maxRecDepth 100000 in
set_option maxHeartbeats 1000000 in
theorem rstart_fresh (f : FlatD) (w : World) (hf : FlatAt w f) : Calls Try.prog 28 #[f.val] w (MarkedF (f.E.map startM) f.en w) := by
  obtain ⟨i0, hi, hz0, hz1, hz2⟩ := info_parts infoM
  have HI := Lib.hid hi
  have HZ0 := Lib.hid hz0
  have HZ1 := Lib.hid hz1
  have HZ2 := Lib.hid hz2
  clear hi hz0 hz1 hz2
  have HE := Lib.hid hf.evs
  have HLE := Lib.hid hf.evs.1
  have hfew := hf.few
  clear hf
  obtain ⟨ea, en, ec, ta, tn, tc, E, T⟩ := f
  simp only at HE HLE hfew ⊢
  have hr := (Fr.refl [] w).alloc (.cells #[.slice ea en ec, .slice ta tn tc] 31)
  have rb := Row.new w [.slice ea en ec, .slice ta tn tc] 31
  have HR := Lib.hid hr
  have RB := Lib.hid rb
  have HW := Lib.hid (own_empty (w.alloc (.cells #[.slice ea en ec, .slice ta tn tc] 31)) 52 3)
  have FE := Lib.hid (((Fr.refl [] (w.alloc (.cells #[.slice ea en ec, .slice ta tn tc] 31))).alloc (.cells #[] 52)) : Fr [] (w.alloc (.cells #[.slice ea en ec, .slice ta tn tc] 31)) ((w.alloc (.cells #[.slice ea en ec, .slice ta tn tc] 31)).alloc (.cells #[] 52)))
  clear hr rb
  unfold FlatD.val
  simp only
  go_enter Try.func28, Try.ntmps28
  go_wp2_with fail

  go_loopg [3, 4] en (fun k v i wr => ∃ (j : Nat), k = en - j ∧ j ≤ en ∧ i = .int .i64 j ∧ wr.ownsRow (w.heap.size + 1) 52 3 v j (mcells ((E.take j).map startM)) ∧ Fr [] (w.alloc (.cells #[.slice ea en ec, .slice ta tn tc] 31)) wr)
  case atStart => exact ⟨0, rfl, by omega, rfl, by have := HW.out; simp at this; exact this, FE.out⟩
  case round =>
    obtain ⟨j, rfl, hj, rfl, hO, hF⟩ := hrel
    obtain ⟨a, c, rfl⟩ := own_slice hO
    have O := Lib.hid hO
    have F := Lib.hid hF
    have FW := Lib.hid (HR.out.trans hF (by simp))
    have hwsz : w.heap.size + 1 ≤ wr.heap.size := by have := hF.size; simp at this; omega
    have x0 : wr.cell? ⟨w.heap.size, 0, none⟩ = some (.slice ea en ec) := (RB.out.fr hF (by simp)).cell 0
    clear hO hF
    by_cases hjn : j < en
    · have hd : decide (j < en) = true := by rw [decide_eq_true_iff]; omega
      obtain ⟨b1, o1, rfl, hb1, hc1⟩ := (HE.out.fr FW.out).2.at_ (by omega)
      have hcx := hc1 j hjn
      have ht := take_succD E j (by rw [HLE.out]; exact hjn)
      generalize E.getD j default = x at hcx ht
      have hc' : ∀ k v, ([.string x.name, .string x.group, .string x.role, .bool x.inn, .bool x.done, .int .i64 x.due] : List Value)[k]? = some v → wr.cell? ⟨b1, o1 + j * 6 + k, none⟩ = some v := hcx
      have HC := Lib.hid hc'
      have HT := Lib.hid ht
      clear hcx hc' hc1 ht
      go_wp2_with (first | ((with_reducible refine wpList_load_at rfl 104 (.tmp 18) rfl agg104 6 size104 b1 (o1 + j * 6) [.string x.name, .string x.group, .string x.role, .bool x.inn, .bool x.done, .int .i64 x.due] rfl HC.out ?_ ?_); exact rfl) | ((with_reducible refine wpList_var_agg rfl rfl 104 (.tmp 5) (.tmp 19) rfl rfl 6 zero104 [.string x.name, .string x.group, .string x.role, .bool x.inn, .bool x.done, .int .i64 x.due] rfl ?_ ?_ ?_ ?_); (intro u hu; simp at hu; rcases hu with rfl | rfl | rfl | rfl | rfl | rfl <;> rfl); exact rfl; exact rfl))
      intro w3 hr3 hs3 hf3
      have F3 := Lib.hid (F.out.trans hf3 (by simp))
      have O3 := Lib.hid (own_fr O.out hf3)
      have q3 : w3.cell? ⟨wr.heap.size, 3, none⟩ = some (.bool x.inn) := hr3.cell 3
      have q4 : w3.cell? ⟨wr.heap.size, 4, none⟩ = some (.bool x.done) := hr3.cell 4
      have q5 : w3.cell? ⟨wr.heap.size, 5, none⟩ = some (.int .i64 x.due) := hr3.cell 5
      have hws3 : w.heap.size + 1 ≤ w3.heap.size := by omega
      have hlt3 : wr.heap.size < w3.heap.size := by omega
      have n4 : (⟨wr.heap.size, 4, none⟩ : Addr).block ≠ w3.heap.size := by show wr.heap.size ≠ w3.heap.size; omega
      have HT' := Lib.hid (by rw [HT.out, List.map_append, List.map_cons, List.map_nil, mcells_snoc] : mcells ((E.take (j + 1)).map startM) = mcells ((E.take j).map startM) ++ (startM x).cells)
      have q4' : ∀ o, (w3.alloc o).cell? ⟨wr.heap.size, 4, none⟩ = some (.bool x.done) := fun o => by rw [World.cell?_alloc_lt w3 o _ (by simpa using hlt3)]; exact q4
      clear hr3 hs3 hf3 x0
      by_cases hu0 : x.due < -1
      · skip
        have cl : clampU x.due = (-1) := by unfold clampU; split <;> (try split) <;> omega
        have CL := Lib.hid cl
        clear cl
        have dd0 : decide (x.due < -1) = true := by rw [decide_eq_true_iff]; omega
        cases hdn : x.done
        · have HD := Lib.hid hdn
          rw [hdn] at q4 q4'
          clear hdn
          have hsz0 : (w3.alloc (.cells #[.bool x.inn, .int .i64 (-1), .int .i64 (-1)] 52)).heap.size = w3.heap.size + 1 := by simp
          have hfr1 : Fr [] w3 ((w3.alloc (.cells #[.bool x.inn, .int .i64 (-1), .int .i64 (-1)] 52)).alloc (.cells #[.bool x.inn, .int .i64 (-1), .int .i64 (-1)] 52)) := ((Fr.refl [] w3).alloc _).alloc _
          have hO4 : ((w3.alloc (.cells #[.bool x.inn, .int .i64 (-1), .int .i64 (-1)] 52)).alloc (.cells #[.bool x.inn, .int .i64 (-1), .int .i64 (-1)] 52)).ownsRow (w.heap.size + 1) 52 3 (.slice a j c) j (mcells ((E.take j).map startM)) := own_fr O3.out hfr1
          have hnew : ∀ i u, ([.bool x.inn, .int .i64 (-1), .int .i64 (-1)] : List Value)[i]? = some u → ((w3.alloc (.cells #[.bool x.inn, .int .i64 (-1), .int .i64 (-1)] 52)).alloc (.cells #[.bool x.inn, .int .i64 (-1), .int .i64 (-1)] 52)).cell? ((⟨w3.heap.size + 1, 0, none⟩ : Addr).add i) = some u := by
            intro i u hi
            rw [Addr_add, Nat.zero_add]
            have hrn := Row.new (w3.alloc (.cells #[.bool x.inn, .int .i64 (-1), .int .i64 (-1)] 52)) [.bool x.inn, .int .i64 (-1), .int .i64 (-1)] 52
            rw [hsz0] at hrn
            exact (hrn.cell i).trans hi
          have hst : (startM x).cells = [.bool x.inn, .int .i64 (-1), .int .i64 (-1)] := by unfold startM MarkD.cells; rw [HD.out, CL.out]; rfl
          have O4 := Lib.hid hO4
          have NW := Lib.hid hnew
          have ST := Lib.hid hst
          have F4 := Lib.hid (F3.out.trans hfr1 (by simp))
          clear hO4 hnew hst hfr1 hsz0
          go_wp2_with (at_builtin; refine wpList_append_own _ rfl _ _ 26 rfl (w.heap.size + 1) 52 i0 (.agg #[.bool false, .int .i64 0, .int .i64 0]) 3 24 Try.underlying26 HI.out HZ0.out HZ1.out HZ2.out rfl (by decide) _ _ _ rfl O4.out ⟨w3.heap.size + 1, 0, none⟩ 1 1 [.bool x.inn, .int .i64 (-1), .int .i64 (-1)] rfl rfl NW.out (by simp [Value.oneCell']) ?c3 ?c4 ?c5 ?_)
          case c3 => unfold maxLen; omega
          case c4 => omega
          case c5 => first | omega | (simp; omega)
          intro v' w5 hown' hgrow _
          have hown2 : w5.ownsRow (w.heap.size + 1) 52 3 v' (j + 1) (mcells ((E.take (j + 1)).map startM)) := by
            rw [HT'.out, ST.out]
            first | exact hown' | (rw [List.map_take]; exact hown')
          have hF5 : Fr [] (w.alloc (.cells #[.slice (some ⟨b1, o1, none⟩) en ec, .slice ta tn tc] 31)) w5 := by
            refine F4.out.trans (Fr.of_grown hgrow ((Value.ownBlock (.slice a j c)).toList) (fun k hk => .inl (by simp [hk]))) ?_
            intro k hk
            simp only [Option.mem_toList] at hk
            have := (O4.out.lt k hk).1
            exact .inr (by simp; omega)
          have O5 := Lib.hid hown2
          have F5 := Lib.hid hF5
          clear hown' hgrow hown2 hF5
          go_wp2_with fail
          go_roundg (en - (j + 1))
          case measure => omega
          case rel => exact ⟨j + 1, rfl, by omega, rfl, O5.out, F5.out⟩
        · have HD := Lib.hid hdn
          rw [hdn] at q4 q4'
          clear hdn
          have hsz0 : (w3.alloc (.cells #[.bool x.inn, .int .i64 0, .int .i64 (-1)] 52)).heap.size = w3.heap.size + 1 := by simp
          have hfr1 : Fr [] w3 ((w3.alloc (.cells #[.bool x.inn, .int .i64 0, .int .i64 (-1)] 52)).alloc (.cells #[.bool x.inn, .int .i64 0, .int .i64 (-1)] 52)) := ((Fr.refl [] w3).alloc _).alloc _
          have hO4 : ((w3.alloc (.cells #[.bool x.inn, .int .i64 0, .int .i64 (-1)] 52)).alloc (.cells #[.bool x.inn, .int .i64 0, .int .i64 (-1)] 52)).ownsRow (w.heap.size + 1) 52 3 (.slice a j c) j (mcells ((E.take j).map startM)) := own_fr O3.out hfr1
          have hnew : ∀ i u, ([.bool x.inn, .int .i64 0, .int .i64 (-1)] : List Value)[i]? = some u → ((w3.alloc (.cells #[.bool x.inn, .int .i64 0, .int .i64 (-1)] 52)).alloc (.cells #[.bool x.inn, .int .i64 0, .int .i64 (-1)] 52)).cell? ((⟨w3.heap.size + 1, 0, none⟩ : Addr).add i) = some u := by
            intro i u hi
            rw [Addr_add, Nat.zero_add]
            have hrn := Row.new (w3.alloc (.cells #[.bool x.inn, .int .i64 0, .int .i64 (-1)] 52)) [.bool x.inn, .int .i64 0, .int .i64 (-1)] 52
            rw [hsz0] at hrn
            exact (hrn.cell i).trans hi
          have hst : (startM x).cells = [.bool x.inn, .int .i64 0, .int .i64 (-1)] := by unfold startM MarkD.cells; rw [HD.out, CL.out]; rfl
          have O4 := Lib.hid hO4
          have NW := Lib.hid hnew
          have ST := Lib.hid hst
          have F4 := Lib.hid (F3.out.trans hfr1 (by simp))
          clear hO4 hnew hst hfr1 hsz0
          go_wp2_with (at_builtin; refine wpList_append_own _ rfl _ _ 26 rfl (w.heap.size + 1) 52 i0 (.agg #[.bool false, .int .i64 0, .int .i64 0]) 3 24 Try.underlying26 HI.out HZ0.out HZ1.out HZ2.out rfl (by decide) _ _ _ rfl O4.out ⟨w3.heap.size + 1, 0, none⟩ 1 1 [.bool x.inn, .int .i64 0, .int .i64 (-1)] rfl rfl NW.out (by simp [Value.oneCell']) ?c3 ?c4 ?c5 ?_)
          case c3 => unfold maxLen; omega
          case c4 => omega
          case c5 => first | omega | (simp; omega)
          intro v' w5 hown' hgrow _
          have hown2 : w5.ownsRow (w.heap.size + 1) 52 3 v' (j + 1) (mcells ((E.take (j + 1)).map startM)) := by
            rw [HT'.out, ST.out]
            first | exact hown' | (rw [List.map_take]; exact hown')
          have hF5 : Fr [] (w.alloc (.cells #[.slice (some ⟨b1, o1, none⟩) en ec, .slice ta tn tc] 31)) w5 := by
            refine F4.out.trans (Fr.of_grown hgrow ((Value.ownBlock (.slice a j c)).toList) (fun k hk => .inl (by simp [hk]))) ?_
            intro k hk
            simp only [Option.mem_toList] at hk
            have := (O4.out.lt k hk).1
            exact .inr (by simp; omega)
          have O5 := Lib.hid hown2
          have F5 := Lib.hid hF5
          clear hown' hgrow hown2 hF5
          go_wp2_with fail
          go_roundg (en - (j + 1))
          case measure => omega
          case rel => exact ⟨j + 1, rfl, by omega, rfl, O5.out, F5.out⟩
      · skip
        by_cases hu1 : x.due > 1048576
        · skip
          have cl : clampU x.due = 1048576 := by unfold clampU; split <;> (try split) <;> omega
          have CL := Lib.hid cl
          clear cl
          have dd1 : decide (x.due < -1) = false := by rw [decide_eq_false_iff_not]; omega
          have de1 : decide (x.due > 1048576) = true := by rw [decide_eq_true_iff]; omega
          cases hdn : x.done
          · have HD := Lib.hid hdn
            rw [hdn] at q4 q4'
            clear hdn
            have hsz0 : (w3.alloc (.cells #[.bool x.inn, .int .i64 (-1), .int .i64 1048576] 52)).heap.size = w3.heap.size + 1 := by simp
            have hfr1 : Fr [] w3 ((w3.alloc (.cells #[.bool x.inn, .int .i64 (-1), .int .i64 1048576] 52)).alloc (.cells #[.bool x.inn, .int .i64 (-1), .int .i64 1048576] 52)) := ((Fr.refl [] w3).alloc _).alloc _
            have hO4 : ((w3.alloc (.cells #[.bool x.inn, .int .i64 (-1), .int .i64 1048576] 52)).alloc (.cells #[.bool x.inn, .int .i64 (-1), .int .i64 1048576] 52)).ownsRow (w.heap.size + 1) 52 3 (.slice a j c) j (mcells ((E.take j).map startM)) := own_fr O3.out hfr1
            have hnew : ∀ i u, ([.bool x.inn, .int .i64 (-1), .int .i64 1048576] : List Value)[i]? = some u → ((w3.alloc (.cells #[.bool x.inn, .int .i64 (-1), .int .i64 1048576] 52)).alloc (.cells #[.bool x.inn, .int .i64 (-1), .int .i64 1048576] 52)).cell? ((⟨w3.heap.size + 1, 0, none⟩ : Addr).add i) = some u := by
              intro i u hi
              rw [Addr_add, Nat.zero_add]
              have hrn := Row.new (w3.alloc (.cells #[.bool x.inn, .int .i64 (-1), .int .i64 1048576] 52)) [.bool x.inn, .int .i64 (-1), .int .i64 1048576] 52
              rw [hsz0] at hrn
              exact (hrn.cell i).trans hi
            have hst : (startM x).cells = [.bool x.inn, .int .i64 (-1), .int .i64 1048576] := by unfold startM MarkD.cells; rw [HD.out, CL.out]; rfl
            have O4 := Lib.hid hO4
            have NW := Lib.hid hnew
            have ST := Lib.hid hst
            have F4 := Lib.hid (F3.out.trans hfr1 (by simp))
            clear hO4 hnew hst hfr1 hsz0
            go_wp2_with (at_builtin; refine wpList_append_own _ rfl _ _ 26 rfl (w.heap.size + 1) 52 i0 (.agg #[.bool false, .int .i64 0, .int .i64 0]) 3 24 Try.underlying26 HI.out HZ0.out HZ1.out HZ2.out rfl (by decide) _ _ _ rfl O4.out ⟨w3.heap.size + 1, 0, none⟩ 1 1 [.bool x.inn, .int .i64 (-1), .int .i64 1048576] rfl rfl NW.out (by simp [Value.oneCell']) ?c3 ?c4 ?c5 ?_)
            case c3 => unfold maxLen; omega
            case c4 => omega
            case c5 => first | omega | (simp; omega)
            intro v' w5 hown' hgrow _
            have hown2 : w5.ownsRow (w.heap.size + 1) 52 3 v' (j + 1) (mcells ((E.take (j + 1)).map startM)) := by
              rw [HT'.out, ST.out]
              first | exact hown' | (rw [List.map_take]; exact hown')
            have hF5 : Fr [] (w.alloc (.cells #[.slice (some ⟨b1, o1, none⟩) en ec, .slice ta tn tc] 31)) w5 := by
              refine F4.out.trans (Fr.of_grown hgrow ((Value.ownBlock (.slice a j c)).toList) (fun k hk => .inl (by simp [hk]))) ?_
              intro k hk
              simp only [Option.mem_toList] at hk
              have := (O4.out.lt k hk).1
              exact .inr (by simp; omega)
            have O5 := Lib.hid hown2
            have F5 := Lib.hid hF5
            clear hown' hgrow hown2 hF5
            go_wp2_with fail
            go_roundg (en - (j + 1))
            case measure => omega
            case rel => exact ⟨j + 1, rfl, by omega, rfl, O5.out, F5.out⟩
          · have HD := Lib.hid hdn
            rw [hdn] at q4 q4'
            clear hdn
            have hsz0 : (w3.alloc (.cells #[.bool x.inn, .int .i64 0, .int .i64 1048576] 52)).heap.size = w3.heap.size + 1 := by simp
            have hfr1 : Fr [] w3 ((w3.alloc (.cells #[.bool x.inn, .int .i64 0, .int .i64 1048576] 52)).alloc (.cells #[.bool x.inn, .int .i64 0, .int .i64 1048576] 52)) := ((Fr.refl [] w3).alloc _).alloc _
            have hO4 : ((w3.alloc (.cells #[.bool x.inn, .int .i64 0, .int .i64 1048576] 52)).alloc (.cells #[.bool x.inn, .int .i64 0, .int .i64 1048576] 52)).ownsRow (w.heap.size + 1) 52 3 (.slice a j c) j (mcells ((E.take j).map startM)) := own_fr O3.out hfr1
            have hnew : ∀ i u, ([.bool x.inn, .int .i64 0, .int .i64 1048576] : List Value)[i]? = some u → ((w3.alloc (.cells #[.bool x.inn, .int .i64 0, .int .i64 1048576] 52)).alloc (.cells #[.bool x.inn, .int .i64 0, .int .i64 1048576] 52)).cell? ((⟨w3.heap.size + 1, 0, none⟩ : Addr).add i) = some u := by
              intro i u hi
              rw [Addr_add, Nat.zero_add]
              have hrn := Row.new (w3.alloc (.cells #[.bool x.inn, .int .i64 0, .int .i64 1048576] 52)) [.bool x.inn, .int .i64 0, .int .i64 1048576] 52
              rw [hsz0] at hrn
              exact (hrn.cell i).trans hi
            have hst : (startM x).cells = [.bool x.inn, .int .i64 0, .int .i64 1048576] := by unfold startM MarkD.cells; rw [HD.out, CL.out]; rfl
            have O4 := Lib.hid hO4
            have NW := Lib.hid hnew
            have ST := Lib.hid hst
            have F4 := Lib.hid (F3.out.trans hfr1 (by simp))
            clear hO4 hnew hst hfr1 hsz0
            go_wp2_with (at_builtin; refine wpList_append_own _ rfl _ _ 26 rfl (w.heap.size + 1) 52 i0 (.agg #[.bool false, .int .i64 0, .int .i64 0]) 3 24 Try.underlying26 HI.out HZ0.out HZ1.out HZ2.out rfl (by decide) _ _ _ rfl O4.out ⟨w3.heap.size + 1, 0, none⟩ 1 1 [.bool x.inn, .int .i64 0, .int .i64 1048576] rfl rfl NW.out (by simp [Value.oneCell']) ?c3 ?c4 ?c5 ?_)
            case c3 => unfold maxLen; omega
            case c4 => omega
            case c5 => first | omega | (simp; omega)
            intro v' w5 hown' hgrow _
            have hown2 : w5.ownsRow (w.heap.size + 1) 52 3 v' (j + 1) (mcells ((E.take (j + 1)).map startM)) := by
              rw [HT'.out, ST.out]
              first | exact hown' | (rw [List.map_take]; exact hown')
            have hF5 : Fr [] (w.alloc (.cells #[.slice (some ⟨b1, o1, none⟩) en ec, .slice ta tn tc] 31)) w5 := by
              refine F4.out.trans (Fr.of_grown hgrow ((Value.ownBlock (.slice a j c)).toList) (fun k hk => .inl (by simp [hk]))) ?_
              intro k hk
              simp only [Option.mem_toList] at hk
              have := (O4.out.lt k hk).1
              exact .inr (by simp; omega)
            have O5 := Lib.hid hown2
            have F5 := Lib.hid hF5
            clear hown' hgrow hown2 hF5
            go_wp2_with fail
            go_roundg (en - (j + 1))
            case measure => omega
            case rel => exact ⟨j + 1, rfl, by omega, rfl, O5.out, F5.out⟩
        · skip
          have cl : clampU x.due = x.due := by unfold clampU; split <;> (try split) <;> omega
          have CL := Lib.hid cl
          clear cl
          have dd2 : decide (x.due < -1) = false := by rw [decide_eq_false_iff_not]; omega
          have de2 : decide (x.due > 1048576) = false := by rw [decide_eq_false_iff_not]; omega
          cases hdn : x.done
          · have HD := Lib.hid hdn
            rw [hdn] at q4 q4'
            clear hdn
            have hsz0 : (w3.alloc (.cells #[.bool x.inn, .int .i64 (-1), .int .i64 x.due] 52)).heap.size = w3.heap.size + 1 := by simp
            have hfr1 : Fr [] w3 ((w3.alloc (.cells #[.bool x.inn, .int .i64 (-1), .int .i64 x.due] 52)).alloc (.cells #[.bool x.inn, .int .i64 (-1), .int .i64 x.due] 52)) := ((Fr.refl [] w3).alloc _).alloc _
            have hO4 : ((w3.alloc (.cells #[.bool x.inn, .int .i64 (-1), .int .i64 x.due] 52)).alloc (.cells #[.bool x.inn, .int .i64 (-1), .int .i64 x.due] 52)).ownsRow (w.heap.size + 1) 52 3 (.slice a j c) j (mcells ((E.take j).map startM)) := own_fr O3.out hfr1
            have hnew : ∀ i u, ([.bool x.inn, .int .i64 (-1), .int .i64 x.due] : List Value)[i]? = some u → ((w3.alloc (.cells #[.bool x.inn, .int .i64 (-1), .int .i64 x.due] 52)).alloc (.cells #[.bool x.inn, .int .i64 (-1), .int .i64 x.due] 52)).cell? ((⟨w3.heap.size + 1, 0, none⟩ : Addr).add i) = some u := by
              intro i u hi
              rw [Addr_add, Nat.zero_add]
              have hrn := Row.new (w3.alloc (.cells #[.bool x.inn, .int .i64 (-1), .int .i64 x.due] 52)) [.bool x.inn, .int .i64 (-1), .int .i64 x.due] 52
              rw [hsz0] at hrn
              exact (hrn.cell i).trans hi
            have hst : (startM x).cells = [.bool x.inn, .int .i64 (-1), .int .i64 x.due] := by unfold startM MarkD.cells; rw [HD.out, CL.out]; rfl
            have O4 := Lib.hid hO4
            have NW := Lib.hid hnew
            have ST := Lib.hid hst
            have F4 := Lib.hid (F3.out.trans hfr1 (by simp))
            clear hO4 hnew hst hfr1 hsz0
            go_wp2_with (at_builtin; refine wpList_append_own _ rfl _ _ 26 rfl (w.heap.size + 1) 52 i0 (.agg #[.bool false, .int .i64 0, .int .i64 0]) 3 24 Try.underlying26 HI.out HZ0.out HZ1.out HZ2.out rfl (by decide) _ _ _ rfl O4.out ⟨w3.heap.size + 1, 0, none⟩ 1 1 [.bool x.inn, .int .i64 (-1), .int .i64 x.due] rfl rfl NW.out (by simp [Value.oneCell']) ?c3 ?c4 ?c5 ?_)
            case c3 => unfold maxLen; omega
            case c4 => omega
            case c5 => first | omega | (simp; omega)
            intro v' w5 hown' hgrow _
            have hown2 : w5.ownsRow (w.heap.size + 1) 52 3 v' (j + 1) (mcells ((E.take (j + 1)).map startM)) := by
              rw [HT'.out, ST.out]
              first | exact hown' | (rw [List.map_take]; exact hown')
            have hF5 : Fr [] (w.alloc (.cells #[.slice (some ⟨b1, o1, none⟩) en ec, .slice ta tn tc] 31)) w5 := by
              refine F4.out.trans (Fr.of_grown hgrow ((Value.ownBlock (.slice a j c)).toList) (fun k hk => .inl (by simp [hk]))) ?_
              intro k hk
              simp only [Option.mem_toList] at hk
              have := (O4.out.lt k hk).1
              exact .inr (by simp; omega)
            have O5 := Lib.hid hown2
            have F5 := Lib.hid hF5
            clear hown' hgrow hown2 hF5
            go_wp2_with fail
            go_roundg (en - (j + 1))
            case measure => omega
            case rel => exact ⟨j + 1, rfl, by omega, rfl, O5.out, F5.out⟩
          · have HD := Lib.hid hdn
            rw [hdn] at q4 q4'
            clear hdn
            have hsz0 : (w3.alloc (.cells #[.bool x.inn, .int .i64 0, .int .i64 x.due] 52)).heap.size = w3.heap.size + 1 := by simp
            have hfr1 : Fr [] w3 ((w3.alloc (.cells #[.bool x.inn, .int .i64 0, .int .i64 x.due] 52)).alloc (.cells #[.bool x.inn, .int .i64 0, .int .i64 x.due] 52)) := ((Fr.refl [] w3).alloc _).alloc _
            have hO4 : ((w3.alloc (.cells #[.bool x.inn, .int .i64 0, .int .i64 x.due] 52)).alloc (.cells #[.bool x.inn, .int .i64 0, .int .i64 x.due] 52)).ownsRow (w.heap.size + 1) 52 3 (.slice a j c) j (mcells ((E.take j).map startM)) := own_fr O3.out hfr1
            have hnew : ∀ i u, ([.bool x.inn, .int .i64 0, .int .i64 x.due] : List Value)[i]? = some u → ((w3.alloc (.cells #[.bool x.inn, .int .i64 0, .int .i64 x.due] 52)).alloc (.cells #[.bool x.inn, .int .i64 0, .int .i64 x.due] 52)).cell? ((⟨w3.heap.size + 1, 0, none⟩ : Addr).add i) = some u := by
              intro i u hi
              rw [Addr_add, Nat.zero_add]
              have hrn := Row.new (w3.alloc (.cells #[.bool x.inn, .int .i64 0, .int .i64 x.due] 52)) [.bool x.inn, .int .i64 0, .int .i64 x.due] 52
              rw [hsz0] at hrn
              exact (hrn.cell i).trans hi
            have hst : (startM x).cells = [.bool x.inn, .int .i64 0, .int .i64 x.due] := by unfold startM MarkD.cells; rw [HD.out, CL.out]; rfl
            have O4 := Lib.hid hO4
            have NW := Lib.hid hnew
            have ST := Lib.hid hst
            have F4 := Lib.hid (F3.out.trans hfr1 (by simp))
            clear hO4 hnew hst hfr1 hsz0
            go_wp2_with (at_builtin; refine wpList_append_own _ rfl _ _ 26 rfl (w.heap.size + 1) 52 i0 (.agg #[.bool false, .int .i64 0, .int .i64 0]) 3 24 Try.underlying26 HI.out HZ0.out HZ1.out HZ2.out rfl (by decide) _ _ _ rfl O4.out ⟨w3.heap.size + 1, 0, none⟩ 1 1 [.bool x.inn, .int .i64 0, .int .i64 x.due] rfl rfl NW.out (by simp [Value.oneCell']) ?c3 ?c4 ?c5 ?_)
            case c3 => unfold maxLen; omega
            case c4 => omega
            case c5 => first | omega | (simp; omega)
            intro v' w5 hown' hgrow _
            have hown2 : w5.ownsRow (w.heap.size + 1) 52 3 v' (j + 1) (mcells ((E.take (j + 1)).map startM)) := by
              rw [HT'.out, ST.out]
              first | exact hown' | (rw [List.map_take]; exact hown')
            have hF5 : Fr [] (w.alloc (.cells #[.slice (some ⟨b1, o1, none⟩) en ec, .slice ta tn tc] 31)) w5 := by
              refine F4.out.trans (Fr.of_grown hgrow ((Value.ownBlock (.slice a j c)).toList) (fun k hk => .inl (by simp [hk]))) ?_
              intro k hk
              simp only [Option.mem_toList] at hk
              have := (O4.out.lt k hk).1
              exact .inr (by simp; omega)
            have O5 := Lib.hid hown2
            have F5 := Lib.hid hF5
            clear hown' hgrow hown2 hF5
            go_wp2_with fail
            go_roundg (en - (j + 1))
            case measure => omega
            case rel => exact ⟨j + 1, rfl, by omega, rfl, O5.out, F5.out⟩
    · have hd : decide (j < en) = false := by rw [decide_eq_false_iff_not]; omega
      obtain rfl : j = en := by omega
      have hfull : E.take j = E := List.take_of_length_le (by rw [HLE.out]; omega)
      rw [hfull] at O
      clear hfull
      go_wp2_with fail
      go_ret
      exact ⟨a, c, rfl, marks_of_own O.out, FW.out, fun g o he => by have := (O.out.lt g (by rw [he]; rfl)).1; omega⟩
set_option maxRecDepth 100000 in
set_option maxHeartbeats 4000000 in
theorem rtick_fresh (f : FlatD) (a : Option Addr) (n c : Nat) (M : List MarkD) (w : World) (h : MarksAt w a n M) (hn : n ≤ 100000) (hen : f.en ≤ 100000) :
    Calls Try.prog 32 #[f.val, .slice a n c] w (NextF (M.map tickM) (tickE f M) w) := by
  obtain ⟨i0, hi, hz0, hz1, hz2⟩ := info_parts infoM
  have HI := Lib.hid hi
  have HZ0 := Lib.hid hz0
  have HZ1 := Lib.hid hz1
  have HZ2 := Lib.hid hz2
  clear hi hz0 hz1 hz2
  have hr := (Fr.refl [] w).alloc (.cells #[.slice f.ea f.en f.ec, .slice f.ta f.tn f.tc] 31)
  have HR := Lib.hid hr
  have HM := Lib.hid h
  have HL := Lib.hid h.1
  have C1 := rfits_any f a n c M _ (h.fr hr) hn hen
  clear h hr
  unfold FlatD.val at C1 ⊢
  go_enter Try.func32, Try.ntmps32
  go_wp2_with fail
  refine C1.mono ?_
  rintro e w1 ⟨rfl, hF⟩
  have F1 := Lib.hid (HR.out.trans hF (by simp))
  clear hF C1
  cases hfit : fitsB f.en M
  · have HS := Lib.hid (tickE_nofit hfit)
    clear hfit
    go_wp2_with fail
    go_ret2
    rw [HS.out]
    exact nextF_err (by decide) rfl F1.out
  have HFIT := Lib.hid hfit
  clear hfit
  have HW := Lib.hid (own_empty w1 52 3)
  have FE := Lib.hid ((((Fr.refl [] w1).alloc (.cells #[] 52))) : Fr [] w1 (w1.alloc (.cells #[] 52)))
  go_wp2_with fail
  go_loopg [6, 7] n (fun k v i wr => ∃ (j : Nat), k = n - j ∧ j ≤ n ∧ i = .int .i64 j ∧ wr.ownsRow w1.heap.size 52 3 v j (mcells ((M.take j).map tickM)) ∧ (∀ x ∈ M.take j, x.inn = true → x.due ≠ 0) ∧ Fr [] w1 wr)
  case atStart => exact ⟨0, rfl, by omega, rfl, HW.out, by simp, FE.out⟩
  case round =>
    obtain ⟨j, rfl, hj, rfl, hO, hnd, hF⟩ := hrel
    obtain ⟨ao, co, rfl⟩ := own_slice hO
    have O := Lib.hid hO
    have F := Lib.hid hF
    have FW := Lib.hid (F1.out.trans hF (by simp))
    have HND := Lib.hid hnd
    have hwsz : w1.heap.size ≤ wr.heap.size := hF.size
    clear hO hF hnd
    by_cases hjn : j < n
    · have hd : decide (j < n) = true := by rw [decide_eq_true_iff]; omega
      have hjl : j < M.length := by rw [HL.out]; exact hjn
      obtain ⟨b1, o1, rfl, hb1, hc1⟩ := (HM.out.fr FW.out).2.at_ (by omega)
      have hcx := hc1 j hjn
      have ht := take_succD M j hjl
      have hmem := getD_mem M j hjl
      generalize M.getD j default = x at hcx ht hmem
      have hg := not_bad (fits_not HFIT.out x hmem)
      have hc' : ∀ k v, ([.bool x.inn, .int .i64 x.age, .int .i64 x.due] : List Value)[k]? = some v → wr.cell? ⟨b1, o1 + j * 3 + k, none⟩ = some v := hcx
      have HC := Lib.hid hc'
      have HT := Lib.hid ht
      have HMEM := Lib.hid hmem
      clear hcx hc' hc1 ht hmem hjl
      go_wp2_with (first | ((with_reducible refine wpList_load_at rfl 52 (.tmp 22) rfl agg52 3 size52 b1 (o1 + j * 3) [.bool x.inn, .int .i64 x.age, .int .i64 x.due] rfl HC.out ?_ ?_); exact rfl) | ((with_reducible refine wpList_var_agg rfl rfl 52 (.tmp 8) (.tmp 23) rfl rfl 3 zero52 [.bool x.inn, .int .i64 x.age, .int .i64 x.due] rfl ?_ ?_ ?_ ?_); (intro u hu; simp at hu; rcases hu with rfl | rfl | rfl <;> rfl); exact rfl; exact rfl))
      intro w3 hr3 hs3 hf3
      have F3 := Lib.hid (F.out.trans hf3 (by simp))
      have O3 := Lib.hid (own_fr O.out hf3)
      have R3 := Lib.hid hr3
      have q0 : w3.cell? ⟨wr.heap.size, 0, none⟩ = some (.bool x.inn) := hr3.cell 0
      have q1 : w3.cell? ⟨wr.heap.size, 1, none⟩ = some (.int .i64 x.age) := hr3.cell 1
      have q2 : w3.cell? ⟨wr.heap.size, 2, none⟩ = some (.int .i64 x.due) := hr3.cell 2
      have f1 := hr3.frozen 1
      have f2 := hr3.frozen 2
      have hlt3 : wr.heap.size < w3.heap.size := by omega
      have HT' := Lib.hid (by rw [HT.out, List.map_append, List.map_cons, List.map_nil, mcells_snoc] : mcells ((M.take (j + 1)).map tickM) = mcells ((M.take j).map tickM) ++ (tickM x).cells)
      have HN' : (x.inn = true → x.due ≠ 0) → ∀ y ∈ M.take (j + 1), y.inn = true → y.due ≠ 0 := by
        intro h y hy
        rw [HT.out] at hy
        rcases List.mem_append.1 hy with h1 | h1
        · exact HND.out y h1
        · simp at h1
          subst h1
          exact h
      have HN' := Lib.hid HN'
      clear hr3 hs3 hf3
      cases hin : x.inn
      · have HINN := Lib.hid hin
        have NZ := Lib.hid (show x.inn = true → x.due ≠ 0 by rw [hin]; simp)
        have TU := Lib.hid (show tickU x = x.due by unfold tickU; rw [hin]; simp)
        rw [hin] at q0
        clear hin
        by_cases hg0 : x.age ≥ 0
        · have dg0 : decide (x.age ≥ 0) = true := decide_eq_true hg0
          by_cases hg1 : x.age < 65536
          · have dg1 : decide (x.age < 65536) = true := decide_eq_true hg1
            have TA := Lib.hid (show tickA x = x.age + 1 by unfold tickA; split <;> (try split) <;> omega)
            have a0 : (w3.setCell ⟨wr.heap.size, 1, none⟩ (.int .i64 (x.age + 1))).cell? ⟨wr.heap.size, 0, none⟩ = some (.bool false) := by rw [← HINN.out]; exact (R3.out.setCell 1 (.int .i64 (x.age + 1))).cell 0
            have a1 : (w3.setCell ⟨wr.heap.size, 1, none⟩ (.int .i64 (x.age + 1))).cell? ⟨wr.heap.size, 1, none⟩ = some (.int .i64 (x.age + 1)) := (R3.out.setCell 1 (.int .i64 (x.age + 1))).cell 1
            have a2 : (w3.setCell ⟨wr.heap.size, 1, none⟩ (.int .i64 (x.age + 1))).cell? ⟨wr.heap.size, 2, none⟩ = some (.int .i64 x.due) := (R3.out.setCell 1 (.int .i64 (x.age + 1))).cell 2
            have a3 : (w3.setCell ⟨wr.heap.size, 1, none⟩ (.int .i64 (x.age + 1))).frozen? ⟨wr.heap.size, 2, none⟩ = false := (R3.out.setCell 1 (.int .i64 (x.age + 1))).frozen 2
            have hszx : (w3.setCell ⟨wr.heap.size, 1, none⟩ (.int .i64 (x.age + 1))).heap.size = w3.heap.size := by simp
            have fwx : Fr [wr.heap.size] w3 (w3.setCell ⟨wr.heap.size, 1, none⟩ (.int .i64 (x.age + 1))) := ((Fr.refl _ w3).setCell (p := ⟨wr.heap.size, 1, none⟩) (.inl (by simp)) _)
            have hO4 : ((w3.setCell ⟨wr.heap.size, 1, none⟩ (.int .i64 (x.age + 1))).alloc (.cells #[.bool false, .int .i64 (x.age + 1), .int .i64 x.due] 52)).ownsRow w1.heap.size 52 3 (.slice ao j co) j (mcells ((M.take j).map tickM)) := own_keep O3.out (fwx.alloc _) (fun y hy hm => by simp only [List.mem_singleton] at hm; have := (O.out.lt y hy).2; omega)
            have hnew : ∀ i u, ([.bool false, .int .i64 (x.age + 1), .int .i64 x.due] : List Value)[i]? = some u → ((w3.setCell ⟨wr.heap.size, 1, none⟩ (.int .i64 (x.age + 1))).alloc (.cells #[.bool false, .int .i64 (x.age + 1), .int .i64 x.due] 52)).cell? ((⟨w3.heap.size, 0, none⟩ : Addr).add i) = some u := by
              intro i u hi
              rw [Addr_add, Nat.zero_add]
              have hrn := Row.new (w3.setCell ⟨wr.heap.size, 1, none⟩ (.int .i64 (x.age + 1))) [.bool false, .int .i64 (x.age + 1), .int .i64 x.due] 52
              rw [hszx] at hrn
              exact (hrn.cell i).trans hi
            have hst : (tickM x).cells = [.bool false, .int .i64 (x.age + 1), .int .i64 x.due] := by rw [tickM_cells x ((x.age + 1)) (x.due) TA.out TU.out, HINN.out]
            have O4 := Lib.hid hO4
            have NW := Lib.hid hnew
            have ST := Lib.hid hst
            have F4 := Lib.hid (F3.out.trans (fwx.alloc (.cells #[.bool false, .int .i64 (x.age + 1), .int .i64 x.due] 52)) (by intro y hy; simp only [List.mem_singleton] at hy; exact .inr (by omega)) : Fr [] w1 ((w3.setCell ⟨wr.heap.size, 1, none⟩ (.int .i64 (x.age + 1))).alloc (.cells #[.bool false, .int .i64 (x.age + 1), .int .i64 x.due] 52)))
            have HSZ := Lib.hid hszx
            clear hO4 hnew hst hszx fwx
            go_wp2_with (at_builtin; refine wpList_append_own _ rfl _ _ 26 rfl w1.heap.size 52 i0 (.agg #[.bool false, .int .i64 0, .int .i64 0]) 3 24 Try.underlying26 HI.out HZ0.out HZ1.out HZ2.out rfl (by decide) _ _ _ rfl O4.out ⟨w3.heap.size, 0, none⟩ 1 1 [.bool false, .int .i64 (x.age + 1), .int .i64 x.due] rfl rfl NW.out (by simp [Value.oneCell']) ?c3 ?c4 ?c5 ?_)
            case c3 => unfold maxLen; omega
            case c4 => omega
            case c5 => first | omega | (simp; omega)
            intro v' w5 hown' hgrow _
            have hown2 : w5.ownsRow w1.heap.size 52 3 v' (j + 1) (mcells ((M.take (j + 1)).map tickM)) := by
              rw [HT'.out, ST.out]
              first | exact hown' | (rw [List.map_take]; exact hown')
            have hF5 : Fr [] w1 w5 := by
              refine F4.out.trans (Fr.of_grown hgrow ((Value.ownBlock (.slice ao j co)).toList) (fun k hk => .inl (by simp [hk]))) ?_
              intro k hk
              simp only [Option.mem_toList] at hk
              exact .inr (O4.out.lt k hk).1
            have O5 := Lib.hid hown2
            have F5 := Lib.hid hF5
            clear hown' hgrow hown2 hF5
            go_wp2_with fail
            go_roundg (n - (j + 1))
            case measure => omega
            case rel => exact ⟨j + 1, rfl, by omega, rfl, O5.out, HN'.out NZ.out, F5.out⟩
          · have dg1 : decide (x.age < 65536) = false := decide_eq_false hg1
            have TA := Lib.hid (show tickA x = x.age by unfold tickA; split <;> (try split) <;> omega)
            have hszx : w3.heap.size = w3.heap.size := by simp
            have fwx : Fr [wr.heap.size] w3 w3 := (Fr.refl _ w3)
            have hO4 : (w3.alloc (.cells #[.bool false, .int .i64 x.age, .int .i64 x.due] 52)).ownsRow w1.heap.size 52 3 (.slice ao j co) j (mcells ((M.take j).map tickM)) := own_keep O3.out (fwx.alloc _) (fun y hy hm => by simp only [List.mem_singleton] at hm; have := (O.out.lt y hy).2; omega)
            have hnew : ∀ i u, ([.bool false, .int .i64 x.age, .int .i64 x.due] : List Value)[i]? = some u → (w3.alloc (.cells #[.bool false, .int .i64 x.age, .int .i64 x.due] 52)).cell? ((⟨w3.heap.size, 0, none⟩ : Addr).add i) = some u := by
              intro i u hi
              rw [Addr_add, Nat.zero_add]
              have hrn := Row.new w3 [.bool false, .int .i64 x.age, .int .i64 x.due] 52
              rw [hszx] at hrn
              exact (hrn.cell i).trans hi
            have hst : (tickM x).cells = [.bool false, .int .i64 x.age, .int .i64 x.due] := by rw [tickM_cells x (x.age) (x.due) TA.out TU.out, HINN.out]
            have O4 := Lib.hid hO4
            have NW := Lib.hid hnew
            have ST := Lib.hid hst
            have F4 := Lib.hid (F3.out.trans (fwx.alloc (.cells #[.bool false, .int .i64 x.age, .int .i64 x.due] 52)) (by intro y hy; simp only [List.mem_singleton] at hy; exact .inr (by omega)) : Fr [] w1 (w3.alloc (.cells #[.bool false, .int .i64 x.age, .int .i64 x.due] 52)))
            have HSZ := Lib.hid hszx
            clear hO4 hnew hst hszx fwx
            go_wp2_with (at_builtin; refine wpList_append_own _ rfl _ _ 26 rfl w1.heap.size 52 i0 (.agg #[.bool false, .int .i64 0, .int .i64 0]) 3 24 Try.underlying26 HI.out HZ0.out HZ1.out HZ2.out rfl (by decide) _ _ _ rfl O4.out ⟨w3.heap.size, 0, none⟩ 1 1 [.bool false, .int .i64 x.age, .int .i64 x.due] rfl rfl NW.out (by simp [Value.oneCell']) ?c3 ?c4 ?c5 ?_)
            case c3 => unfold maxLen; omega
            case c4 => omega
            case c5 => first | omega | (simp; omega)
            intro v' w5 hown' hgrow _
            have hown2 : w5.ownsRow w1.heap.size 52 3 v' (j + 1) (mcells ((M.take (j + 1)).map tickM)) := by
              rw [HT'.out, ST.out]
              first | exact hown' | (rw [List.map_take]; exact hown')
            have hF5 : Fr [] w1 w5 := by
              refine F4.out.trans (Fr.of_grown hgrow ((Value.ownBlock (.slice ao j co)).toList) (fun k hk => .inl (by simp [hk]))) ?_
              intro k hk
              simp only [Option.mem_toList] at hk
              exact .inr (O4.out.lt k hk).1
            have O5 := Lib.hid hown2
            have F5 := Lib.hid hF5
            clear hown' hgrow hown2 hF5
            go_wp2_with fail
            go_roundg (n - (j + 1))
            case measure => omega
            case rel => exact ⟨j + 1, rfl, by omega, rfl, O5.out, HN'.out NZ.out, F5.out⟩
        · have dg0 : decide (x.age ≥ 0) = false := decide_eq_false hg0
          have TA := Lib.hid (show tickA x = x.age by unfold tickA; split <;> (try split) <;> omega)
          have hszx : w3.heap.size = w3.heap.size := by simp
          have fwx : Fr [wr.heap.size] w3 w3 := (Fr.refl _ w3)
          have hO4 : (w3.alloc (.cells #[.bool false, .int .i64 x.age, .int .i64 x.due] 52)).ownsRow w1.heap.size 52 3 (.slice ao j co) j (mcells ((M.take j).map tickM)) := own_keep O3.out (fwx.alloc _) (fun y hy hm => by simp only [List.mem_singleton] at hm; have := (O.out.lt y hy).2; omega)
          have hnew : ∀ i u, ([.bool false, .int .i64 x.age, .int .i64 x.due] : List Value)[i]? = some u → (w3.alloc (.cells #[.bool false, .int .i64 x.age, .int .i64 x.due] 52)).cell? ((⟨w3.heap.size, 0, none⟩ : Addr).add i) = some u := by
            intro i u hi
            rw [Addr_add, Nat.zero_add]
            have hrn := Row.new w3 [.bool false, .int .i64 x.age, .int .i64 x.due] 52
            rw [hszx] at hrn
            exact (hrn.cell i).trans hi
          have hst : (tickM x).cells = [.bool false, .int .i64 x.age, .int .i64 x.due] := by rw [tickM_cells x (x.age) (x.due) TA.out TU.out, HINN.out]
          have O4 := Lib.hid hO4
          have NW := Lib.hid hnew
          have ST := Lib.hid hst
          have F4 := Lib.hid (F3.out.trans (fwx.alloc (.cells #[.bool false, .int .i64 x.age, .int .i64 x.due] 52)) (by intro y hy; simp only [List.mem_singleton] at hy; exact .inr (by omega)) : Fr [] w1 (w3.alloc (.cells #[.bool false, .int .i64 x.age, .int .i64 x.due] 52)))
          have HSZ := Lib.hid hszx
          clear hO4 hnew hst hszx fwx
          go_wp2_with (at_builtin; refine wpList_append_own _ rfl _ _ 26 rfl w1.heap.size 52 i0 (.agg #[.bool false, .int .i64 0, .int .i64 0]) 3 24 Try.underlying26 HI.out HZ0.out HZ1.out HZ2.out rfl (by decide) _ _ _ rfl O4.out ⟨w3.heap.size, 0, none⟩ 1 1 [.bool false, .int .i64 x.age, .int .i64 x.due] rfl rfl NW.out (by simp [Value.oneCell']) ?c3 ?c4 ?c5 ?_)
          case c3 => unfold maxLen; omega
          case c4 => omega
          case c5 => first | omega | (simp; omega)
          intro v' w5 hown' hgrow _
          have hown2 : w5.ownsRow w1.heap.size 52 3 v' (j + 1) (mcells ((M.take (j + 1)).map tickM)) := by
            rw [HT'.out, ST.out]
            first | exact hown' | (rw [List.map_take]; exact hown')
          have hF5 : Fr [] w1 w5 := by
            refine F4.out.trans (Fr.of_grown hgrow ((Value.ownBlock (.slice ao j co)).toList) (fun k hk => .inl (by simp [hk]))) ?_
            intro k hk
            simp only [Option.mem_toList] at hk
            exact .inr (O4.out.lt k hk).1
          have O5 := Lib.hid hown2
          have F5 := Lib.hid hF5
          clear hown' hgrow hown2 hF5
          go_wp2_with fail
          go_roundg (n - (j + 1))
          case measure => omega
          case rel => exact ⟨j + 1, rfl, by omega, rfl, O5.out, HN'.out NZ.out, F5.out⟩
      · have HINN := Lib.hid hin
        rw [hin] at q0
        by_cases h0 : x.due = 0
        · have e0 : (x.due == 0) = true := beq_iff_eq.2 h0
          have HE := Lib.hid (tickE_due HFIT.out x HMEM.out hin h0)
          have F9 := Lib.hid (F1.out.trans F3.out (by simp))
          clear hin h0
          go_wp2_with fail
          go_ret2
          rw [HE.out]
          exact nextF_err (by decide) rfl F9.out
        have e0 : (x.due == 0) = false := beq_eq_false_iff_ne.2 h0
        have NZ := Lib.hid (show x.inn = true → x.due ≠ 0 from fun _ => h0)
        by_cases h1 : x.due > 0
        · have d1 : decide (x.due > 0) = true := decide_eq_true h1
          by_cases h2 : x.due < 1048576
          · have d2 : decide (x.due < 1048576) = true := decide_eq_true h2
            have TU := Lib.hid (show tickU x = x.due - 1 by unfold tickU; rw [if_pos ⟨hin, h1, h2⟩])
            clear hin h0
            by_cases hg0 : x.age ≥ 0
            · have dg0 : decide (x.age ≥ 0) = true := decide_eq_true hg0
              by_cases hg1 : x.age < 65536
              · have dg1 : decide (x.age < 65536) = true := decide_eq_true hg1
                have TA := Lib.hid (show tickA x = x.age + 1 by unfold tickA; split <;> (try split) <;> omega)
                have a0 : (w3.setCell ⟨wr.heap.size, 1, none⟩ (.int .i64 (x.age + 1))).cell? ⟨wr.heap.size, 0, none⟩ = some (.bool true) := by rw [← HINN.out]; exact (R3.out.setCell 1 (.int .i64 (x.age + 1))).cell 0
                have a1 : (w3.setCell ⟨wr.heap.size, 1, none⟩ (.int .i64 (x.age + 1))).cell? ⟨wr.heap.size, 1, none⟩ = some (.int .i64 (x.age + 1)) := (R3.out.setCell 1 (.int .i64 (x.age + 1))).cell 1
                have a2 : (w3.setCell ⟨wr.heap.size, 1, none⟩ (.int .i64 (x.age + 1))).cell? ⟨wr.heap.size, 2, none⟩ = some (.int .i64 x.due) := (R3.out.setCell 1 (.int .i64 (x.age + 1))).cell 2
                have a3 : (w3.setCell ⟨wr.heap.size, 1, none⟩ (.int .i64 (x.age + 1))).frozen? ⟨wr.heap.size, 2, none⟩ = false := (R3.out.setCell 1 (.int .i64 (x.age + 1))).frozen 2
                have b0 : ((w3.setCell ⟨wr.heap.size, 1, none⟩ (.int .i64 (x.age + 1))).setCell ⟨wr.heap.size, 2, none⟩ (.int .i64 (x.due - 1))).cell? ⟨wr.heap.size, 0, none⟩ = some (.bool true) := by rw [← HINN.out]; exact ((R3.out.setCell 1 (.int .i64 (x.age + 1))).setCell 2 (.int .i64 (x.due - 1))).cell 0
                have b1 : ((w3.setCell ⟨wr.heap.size, 1, none⟩ (.int .i64 (x.age + 1))).setCell ⟨wr.heap.size, 2, none⟩ (.int .i64 (x.due - 1))).cell? ⟨wr.heap.size, 1, none⟩ = some (.int .i64 (x.age + 1)) := ((R3.out.setCell 1 (.int .i64 (x.age + 1))).setCell 2 (.int .i64 (x.due - 1))).cell 1
                have b2 : ((w3.setCell ⟨wr.heap.size, 1, none⟩ (.int .i64 (x.age + 1))).setCell ⟨wr.heap.size, 2, none⟩ (.int .i64 (x.due - 1))).cell? ⟨wr.heap.size, 2, none⟩ = some (.int .i64 (x.due - 1)) := ((R3.out.setCell 1 (.int .i64 (x.age + 1))).setCell 2 (.int .i64 (x.due - 1))).cell 2
                have hszx : ((w3.setCell ⟨wr.heap.size, 1, none⟩ (.int .i64 (x.age + 1))).setCell ⟨wr.heap.size, 2, none⟩ (.int .i64 (x.due - 1))).heap.size = w3.heap.size := by simp
                have fwx : Fr [wr.heap.size] w3 ((w3.setCell ⟨wr.heap.size, 1, none⟩ (.int .i64 (x.age + 1))).setCell ⟨wr.heap.size, 2, none⟩ (.int .i64 (x.due - 1))) := (((Fr.refl _ w3).setCell (p := ⟨wr.heap.size, 1, none⟩) (.inl (by simp)) _).setCell (p := ⟨wr.heap.size, 2, none⟩) (.inl (by simp)) _)
                have hO4 : (((w3.setCell ⟨wr.heap.size, 1, none⟩ (.int .i64 (x.age + 1))).setCell ⟨wr.heap.size, 2, none⟩ (.int .i64 (x.due - 1))).alloc (.cells #[.bool true, .int .i64 (x.age + 1), .int .i64 (x.due - 1)] 52)).ownsRow w1.heap.size 52 3 (.slice ao j co) j (mcells ((M.take j).map tickM)) := own_keep O3.out (fwx.alloc _) (fun y hy hm => by simp only [List.mem_singleton] at hm; have := (O.out.lt y hy).2; omega)
                have hnew : ∀ i u, ([.bool true, .int .i64 (x.age + 1), .int .i64 (x.due - 1)] : List Value)[i]? = some u → (((w3.setCell ⟨wr.heap.size, 1, none⟩ (.int .i64 (x.age + 1))).setCell ⟨wr.heap.size, 2, none⟩ (.int .i64 (x.due - 1))).alloc (.cells #[.bool true, .int .i64 (x.age + 1), .int .i64 (x.due - 1)] 52)).cell? ((⟨w3.heap.size, 0, none⟩ : Addr).add i) = some u := by
                  intro i u hi
                  rw [Addr_add, Nat.zero_add]
                  have hrn := Row.new ((w3.setCell ⟨wr.heap.size, 1, none⟩ (.int .i64 (x.age + 1))).setCell ⟨wr.heap.size, 2, none⟩ (.int .i64 (x.due - 1))) [.bool true, .int .i64 (x.age + 1), .int .i64 (x.due - 1)] 52
                  rw [hszx] at hrn
                  exact (hrn.cell i).trans hi
                have hst : (tickM x).cells = [.bool true, .int .i64 (x.age + 1), .int .i64 (x.due - 1)] := by rw [tickM_cells x ((x.age + 1)) ((x.due - 1)) TA.out TU.out, HINN.out]
                have O4 := Lib.hid hO4
                have NW := Lib.hid hnew
                have ST := Lib.hid hst
                have F4 := Lib.hid (F3.out.trans (fwx.alloc (.cells #[.bool true, .int .i64 (x.age + 1), .int .i64 (x.due - 1)] 52)) (by intro y hy; simp only [List.mem_singleton] at hy; exact .inr (by omega)) : Fr [] w1 (((w3.setCell ⟨wr.heap.size, 1, none⟩ (.int .i64 (x.age + 1))).setCell ⟨wr.heap.size, 2, none⟩ (.int .i64 (x.due - 1))).alloc (.cells #[.bool true, .int .i64 (x.age + 1), .int .i64 (x.due - 1)] 52)))
                have HSZ := Lib.hid hszx
                clear hO4 hnew hst hszx fwx
                go_wp2_with (at_builtin; refine wpList_append_own _ rfl _ _ 26 rfl w1.heap.size 52 i0 (.agg #[.bool false, .int .i64 0, .int .i64 0]) 3 24 Try.underlying26 HI.out HZ0.out HZ1.out HZ2.out rfl (by decide) _ _ _ rfl O4.out ⟨w3.heap.size, 0, none⟩ 1 1 [.bool true, .int .i64 (x.age + 1), .int .i64 (x.due - 1)] rfl rfl NW.out (by simp [Value.oneCell']) ?c3 ?c4 ?c5 ?_)
                case c3 => unfold maxLen; omega
                case c4 => omega
                case c5 => first | omega | (simp; omega)
                intro v' w5 hown' hgrow _
                have hown2 : w5.ownsRow w1.heap.size 52 3 v' (j + 1) (mcells ((M.take (j + 1)).map tickM)) := by
                  rw [HT'.out, ST.out]
                  first | exact hown' | (rw [List.map_take]; exact hown')
                have hF5 : Fr [] w1 w5 := by
                  refine F4.out.trans (Fr.of_grown hgrow ((Value.ownBlock (.slice ao j co)).toList) (fun k hk => .inl (by simp [hk]))) ?_
                  intro k hk
                  simp only [Option.mem_toList] at hk
                  exact .inr (O4.out.lt k hk).1
                have O5 := Lib.hid hown2
                have F5 := Lib.hid hF5
                clear hown' hgrow hown2 hF5
                go_wp2_with fail
                go_roundg (n - (j + 1))
                case measure => omega
                case rel => exact ⟨j + 1, rfl, by omega, rfl, O5.out, HN'.out NZ.out, F5.out⟩
              · have dg1 : decide (x.age < 65536) = false := decide_eq_false hg1
                have TA := Lib.hid (show tickA x = x.age by unfold tickA; split <;> (try split) <;> omega)
                have b0 : (w3.setCell ⟨wr.heap.size, 2, none⟩ (.int .i64 (x.due - 1))).cell? ⟨wr.heap.size, 0, none⟩ = some (.bool true) := by rw [← HINN.out]; exact (R3.out.setCell 2 (.int .i64 (x.due - 1))).cell 0
                have b1 : (w3.setCell ⟨wr.heap.size, 2, none⟩ (.int .i64 (x.due - 1))).cell? ⟨wr.heap.size, 1, none⟩ = some (.int .i64 x.age) := (R3.out.setCell 2 (.int .i64 (x.due - 1))).cell 1
                have b2 : (w3.setCell ⟨wr.heap.size, 2, none⟩ (.int .i64 (x.due - 1))).cell? ⟨wr.heap.size, 2, none⟩ = some (.int .i64 (x.due - 1)) := (R3.out.setCell 2 (.int .i64 (x.due - 1))).cell 2
                have hszx : (w3.setCell ⟨wr.heap.size, 2, none⟩ (.int .i64 (x.due - 1))).heap.size = w3.heap.size := by simp
                have fwx : Fr [wr.heap.size] w3 (w3.setCell ⟨wr.heap.size, 2, none⟩ (.int .i64 (x.due - 1))) := ((Fr.refl _ w3).setCell (p := ⟨wr.heap.size, 2, none⟩) (.inl (by simp)) _)
                have hO4 : ((w3.setCell ⟨wr.heap.size, 2, none⟩ (.int .i64 (x.due - 1))).alloc (.cells #[.bool true, .int .i64 x.age, .int .i64 (x.due - 1)] 52)).ownsRow w1.heap.size 52 3 (.slice ao j co) j (mcells ((M.take j).map tickM)) := own_keep O3.out (fwx.alloc _) (fun y hy hm => by simp only [List.mem_singleton] at hm; have := (O.out.lt y hy).2; omega)
                have hnew : ∀ i u, ([.bool true, .int .i64 x.age, .int .i64 (x.due - 1)] : List Value)[i]? = some u → ((w3.setCell ⟨wr.heap.size, 2, none⟩ (.int .i64 (x.due - 1))).alloc (.cells #[.bool true, .int .i64 x.age, .int .i64 (x.due - 1)] 52)).cell? ((⟨w3.heap.size, 0, none⟩ : Addr).add i) = some u := by
                  intro i u hi
                  rw [Addr_add, Nat.zero_add]
                  have hrn := Row.new (w3.setCell ⟨wr.heap.size, 2, none⟩ (.int .i64 (x.due - 1))) [.bool true, .int .i64 x.age, .int .i64 (x.due - 1)] 52
                  rw [hszx] at hrn
                  exact (hrn.cell i).trans hi
                have hst : (tickM x).cells = [.bool true, .int .i64 x.age, .int .i64 (x.due - 1)] := by rw [tickM_cells x (x.age) ((x.due - 1)) TA.out TU.out, HINN.out]
                have O4 := Lib.hid hO4
                have NW := Lib.hid hnew
                have ST := Lib.hid hst
                have F4 := Lib.hid (F3.out.trans (fwx.alloc (.cells #[.bool true, .int .i64 x.age, .int .i64 (x.due - 1)] 52)) (by intro y hy; simp only [List.mem_singleton] at hy; exact .inr (by omega)) : Fr [] w1 ((w3.setCell ⟨wr.heap.size, 2, none⟩ (.int .i64 (x.due - 1))).alloc (.cells #[.bool true, .int .i64 x.age, .int .i64 (x.due - 1)] 52)))
                have HSZ := Lib.hid hszx
                clear hO4 hnew hst hszx fwx
                go_wp2_with (at_builtin; refine wpList_append_own _ rfl _ _ 26 rfl w1.heap.size 52 i0 (.agg #[.bool false, .int .i64 0, .int .i64 0]) 3 24 Try.underlying26 HI.out HZ0.out HZ1.out HZ2.out rfl (by decide) _ _ _ rfl O4.out ⟨w3.heap.size, 0, none⟩ 1 1 [.bool true, .int .i64 x.age, .int .i64 (x.due - 1)] rfl rfl NW.out (by simp [Value.oneCell']) ?c3 ?c4 ?c5 ?_)
                case c3 => unfold maxLen; omega
                case c4 => omega
                case c5 => first | omega | (simp; omega)
                intro v' w5 hown' hgrow _
                have hown2 : w5.ownsRow w1.heap.size 52 3 v' (j + 1) (mcells ((M.take (j + 1)).map tickM)) := by
                  rw [HT'.out, ST.out]
                  first | exact hown' | (rw [List.map_take]; exact hown')
                have hF5 : Fr [] w1 w5 := by
                  refine F4.out.trans (Fr.of_grown hgrow ((Value.ownBlock (.slice ao j co)).toList) (fun k hk => .inl (by simp [hk]))) ?_
                  intro k hk
                  simp only [Option.mem_toList] at hk
                  exact .inr (O4.out.lt k hk).1
                have O5 := Lib.hid hown2
                have F5 := Lib.hid hF5
                clear hown' hgrow hown2 hF5
                go_wp2_with fail
                go_roundg (n - (j + 1))
                case measure => omega
                case rel => exact ⟨j + 1, rfl, by omega, rfl, O5.out, HN'.out NZ.out, F5.out⟩
            · have dg0 : decide (x.age ≥ 0) = false := decide_eq_false hg0
              have TA := Lib.hid (show tickA x = x.age by unfold tickA; split <;> (try split) <;> omega)
              have b0 : (w3.setCell ⟨wr.heap.size, 2, none⟩ (.int .i64 (x.due - 1))).cell? ⟨wr.heap.size, 0, none⟩ = some (.bool true) := by rw [← HINN.out]; exact (R3.out.setCell 2 (.int .i64 (x.due - 1))).cell 0
              have b1 : (w3.setCell ⟨wr.heap.size, 2, none⟩ (.int .i64 (x.due - 1))).cell? ⟨wr.heap.size, 1, none⟩ = some (.int .i64 x.age) := (R3.out.setCell 2 (.int .i64 (x.due - 1))).cell 1
              have b2 : (w3.setCell ⟨wr.heap.size, 2, none⟩ (.int .i64 (x.due - 1))).cell? ⟨wr.heap.size, 2, none⟩ = some (.int .i64 (x.due - 1)) := (R3.out.setCell 2 (.int .i64 (x.due - 1))).cell 2
              have hszx : (w3.setCell ⟨wr.heap.size, 2, none⟩ (.int .i64 (x.due - 1))).heap.size = w3.heap.size := by simp
              have fwx : Fr [wr.heap.size] w3 (w3.setCell ⟨wr.heap.size, 2, none⟩ (.int .i64 (x.due - 1))) := ((Fr.refl _ w3).setCell (p := ⟨wr.heap.size, 2, none⟩) (.inl (by simp)) _)
              have hO4 : ((w3.setCell ⟨wr.heap.size, 2, none⟩ (.int .i64 (x.due - 1))).alloc (.cells #[.bool true, .int .i64 x.age, .int .i64 (x.due - 1)] 52)).ownsRow w1.heap.size 52 3 (.slice ao j co) j (mcells ((M.take j).map tickM)) := own_keep O3.out (fwx.alloc _) (fun y hy hm => by simp only [List.mem_singleton] at hm; have := (O.out.lt y hy).2; omega)
              have hnew : ∀ i u, ([.bool true, .int .i64 x.age, .int .i64 (x.due - 1)] : List Value)[i]? = some u → ((w3.setCell ⟨wr.heap.size, 2, none⟩ (.int .i64 (x.due - 1))).alloc (.cells #[.bool true, .int .i64 x.age, .int .i64 (x.due - 1)] 52)).cell? ((⟨w3.heap.size, 0, none⟩ : Addr).add i) = some u := by
                intro i u hi
                rw [Addr_add, Nat.zero_add]
                have hrn := Row.new (w3.setCell ⟨wr.heap.size, 2, none⟩ (.int .i64 (x.due - 1))) [.bool true, .int .i64 x.age, .int .i64 (x.due - 1)] 52
                rw [hszx] at hrn
                exact (hrn.cell i).trans hi
              have hst : (tickM x).cells = [.bool true, .int .i64 x.age, .int .i64 (x.due - 1)] := by rw [tickM_cells x (x.age) ((x.due - 1)) TA.out TU.out, HINN.out]
              have O4 := Lib.hid hO4
              have NW := Lib.hid hnew
              have ST := Lib.hid hst
              have F4 := Lib.hid (F3.out.trans (fwx.alloc (.cells #[.bool true, .int .i64 x.age, .int .i64 (x.due - 1)] 52)) (by intro y hy; simp only [List.mem_singleton] at hy; exact .inr (by omega)) : Fr [] w1 ((w3.setCell ⟨wr.heap.size, 2, none⟩ (.int .i64 (x.due - 1))).alloc (.cells #[.bool true, .int .i64 x.age, .int .i64 (x.due - 1)] 52)))
              have HSZ := Lib.hid hszx
              clear hO4 hnew hst hszx fwx
              go_wp2_with (at_builtin; refine wpList_append_own _ rfl _ _ 26 rfl w1.heap.size 52 i0 (.agg #[.bool false, .int .i64 0, .int .i64 0]) 3 24 Try.underlying26 HI.out HZ0.out HZ1.out HZ2.out rfl (by decide) _ _ _ rfl O4.out ⟨w3.heap.size, 0, none⟩ 1 1 [.bool true, .int .i64 x.age, .int .i64 (x.due - 1)] rfl rfl NW.out (by simp [Value.oneCell']) ?c3 ?c4 ?c5 ?_)
              case c3 => unfold maxLen; omega
              case c4 => omega
              case c5 => first | omega | (simp; omega)
              intro v' w5 hown' hgrow _
              have hown2 : w5.ownsRow w1.heap.size 52 3 v' (j + 1) (mcells ((M.take (j + 1)).map tickM)) := by
                rw [HT'.out, ST.out]
                first | exact hown' | (rw [List.map_take]; exact hown')
              have hF5 : Fr [] w1 w5 := by
                refine F4.out.trans (Fr.of_grown hgrow ((Value.ownBlock (.slice ao j co)).toList) (fun k hk => .inl (by simp [hk]))) ?_
                intro k hk
                simp only [Option.mem_toList] at hk
                exact .inr (O4.out.lt k hk).1
              have O5 := Lib.hid hown2
              have F5 := Lib.hid hF5
              clear hown' hgrow hown2 hF5
              go_wp2_with fail
              go_roundg (n - (j + 1))
              case measure => omega
              case rel => exact ⟨j + 1, rfl, by omega, rfl, O5.out, HN'.out NZ.out, F5.out⟩
          · have d2 : decide (x.due < 1048576) = false := decide_eq_false h2
            have TU := Lib.hid (show tickU x = x.due by unfold tickU; rw [if_neg (fun h => h2 h.2.2)])
            clear hin h0
            by_cases hg0 : x.age ≥ 0
            · have dg0 : decide (x.age ≥ 0) = true := decide_eq_true hg0
              by_cases hg1 : x.age < 65536
              · have dg1 : decide (x.age < 65536) = true := decide_eq_true hg1
                have TA := Lib.hid (show tickA x = x.age + 1 by unfold tickA; split <;> (try split) <;> omega)
                have a0 : (w3.setCell ⟨wr.heap.size, 1, none⟩ (.int .i64 (x.age + 1))).cell? ⟨wr.heap.size, 0, none⟩ = some (.bool true) := by rw [← HINN.out]; exact (R3.out.setCell 1 (.int .i64 (x.age + 1))).cell 0
                have a1 : (w3.setCell ⟨wr.heap.size, 1, none⟩ (.int .i64 (x.age + 1))).cell? ⟨wr.heap.size, 1, none⟩ = some (.int .i64 (x.age + 1)) := (R3.out.setCell 1 (.int .i64 (x.age + 1))).cell 1
                have a2 : (w3.setCell ⟨wr.heap.size, 1, none⟩ (.int .i64 (x.age + 1))).cell? ⟨wr.heap.size, 2, none⟩ = some (.int .i64 x.due) := (R3.out.setCell 1 (.int .i64 (x.age + 1))).cell 2
                have a3 : (w3.setCell ⟨wr.heap.size, 1, none⟩ (.int .i64 (x.age + 1))).frozen? ⟨wr.heap.size, 2, none⟩ = false := (R3.out.setCell 1 (.int .i64 (x.age + 1))).frozen 2
                have hszx : (w3.setCell ⟨wr.heap.size, 1, none⟩ (.int .i64 (x.age + 1))).heap.size = w3.heap.size := by simp
                have fwx : Fr [wr.heap.size] w3 (w3.setCell ⟨wr.heap.size, 1, none⟩ (.int .i64 (x.age + 1))) := ((Fr.refl _ w3).setCell (p := ⟨wr.heap.size, 1, none⟩) (.inl (by simp)) _)
                have hO4 : ((w3.setCell ⟨wr.heap.size, 1, none⟩ (.int .i64 (x.age + 1))).alloc (.cells #[.bool true, .int .i64 (x.age + 1), .int .i64 x.due] 52)).ownsRow w1.heap.size 52 3 (.slice ao j co) j (mcells ((M.take j).map tickM)) := own_keep O3.out (fwx.alloc _) (fun y hy hm => by simp only [List.mem_singleton] at hm; have := (O.out.lt y hy).2; omega)
                have hnew : ∀ i u, ([.bool true, .int .i64 (x.age + 1), .int .i64 x.due] : List Value)[i]? = some u → ((w3.setCell ⟨wr.heap.size, 1, none⟩ (.int .i64 (x.age + 1))).alloc (.cells #[.bool true, .int .i64 (x.age + 1), .int .i64 x.due] 52)).cell? ((⟨w3.heap.size, 0, none⟩ : Addr).add i) = some u := by
                  intro i u hi
                  rw [Addr_add, Nat.zero_add]
                  have hrn := Row.new (w3.setCell ⟨wr.heap.size, 1, none⟩ (.int .i64 (x.age + 1))) [.bool true, .int .i64 (x.age + 1), .int .i64 x.due] 52
                  rw [hszx] at hrn
                  exact (hrn.cell i).trans hi
                have hst : (tickM x).cells = [.bool true, .int .i64 (x.age + 1), .int .i64 x.due] := by rw [tickM_cells x ((x.age + 1)) (x.due) TA.out TU.out, HINN.out]
                have O4 := Lib.hid hO4
                have NW := Lib.hid hnew
                have ST := Lib.hid hst
                have F4 := Lib.hid (F3.out.trans (fwx.alloc (.cells #[.bool true, .int .i64 (x.age + 1), .int .i64 x.due] 52)) (by intro y hy; simp only [List.mem_singleton] at hy; exact .inr (by omega)) : Fr [] w1 ((w3.setCell ⟨wr.heap.size, 1, none⟩ (.int .i64 (x.age + 1))).alloc (.cells #[.bool true, .int .i64 (x.age + 1), .int .i64 x.due] 52)))
                have HSZ := Lib.hid hszx
                clear hO4 hnew hst hszx fwx
                go_wp2_with (at_builtin; refine wpList_append_own _ rfl _ _ 26 rfl w1.heap.size 52 i0 (.agg #[.bool false, .int .i64 0, .int .i64 0]) 3 24 Try.underlying26 HI.out HZ0.out HZ1.out HZ2.out rfl (by decide) _ _ _ rfl O4.out ⟨w3.heap.size, 0, none⟩ 1 1 [.bool true, .int .i64 (x.age + 1), .int .i64 x.due] rfl rfl NW.out (by simp [Value.oneCell']) ?c3 ?c4 ?c5 ?_)
                case c3 => unfold maxLen; omega
                case c4 => omega
                case c5 => first | omega | (simp; omega)
                intro v' w5 hown' hgrow _
                have hown2 : w5.ownsRow w1.heap.size 52 3 v' (j + 1) (mcells ((M.take (j + 1)).map tickM)) := by
                  rw [HT'.out, ST.out]
                  first | exact hown' | (rw [List.map_take]; exact hown')
                have hF5 : Fr [] w1 w5 := by
                  refine F4.out.trans (Fr.of_grown hgrow ((Value.ownBlock (.slice ao j co)).toList) (fun k hk => .inl (by simp [hk]))) ?_
                  intro k hk
                  simp only [Option.mem_toList] at hk
                  exact .inr (O4.out.lt k hk).1
                have O5 := Lib.hid hown2
                have F5 := Lib.hid hF5
                clear hown' hgrow hown2 hF5
                go_wp2_with fail
                go_roundg (n - (j + 1))
                case measure => omega
                case rel => exact ⟨j + 1, rfl, by omega, rfl, O5.out, HN'.out NZ.out, F5.out⟩
              · have dg1 : decide (x.age < 65536) = false := decide_eq_false hg1
                have TA := Lib.hid (show tickA x = x.age by unfold tickA; split <;> (try split) <;> omega)
                have hszx : w3.heap.size = w3.heap.size := by simp
                have fwx : Fr [wr.heap.size] w3 w3 := (Fr.refl _ w3)
                have hO4 : (w3.alloc (.cells #[.bool true, .int .i64 x.age, .int .i64 x.due] 52)).ownsRow w1.heap.size 52 3 (.slice ao j co) j (mcells ((M.take j).map tickM)) := own_keep O3.out (fwx.alloc _) (fun y hy hm => by simp only [List.mem_singleton] at hm; have := (O.out.lt y hy).2; omega)
                have hnew : ∀ i u, ([.bool true, .int .i64 x.age, .int .i64 x.due] : List Value)[i]? = some u → (w3.alloc (.cells #[.bool true, .int .i64 x.age, .int .i64 x.due] 52)).cell? ((⟨w3.heap.size, 0, none⟩ : Addr).add i) = some u := by
                  intro i u hi
                  rw [Addr_add, Nat.zero_add]
                  have hrn := Row.new w3 [.bool true, .int .i64 x.age, .int .i64 x.due] 52
                  rw [hszx] at hrn
                  exact (hrn.cell i).trans hi
                have hst : (tickM x).cells = [.bool true, .int .i64 x.age, .int .i64 x.due] := by rw [tickM_cells x (x.age) (x.due) TA.out TU.out, HINN.out]
                have O4 := Lib.hid hO4
                have NW := Lib.hid hnew
                have ST := Lib.hid hst
                have F4 := Lib.hid (F3.out.trans (fwx.alloc (.cells #[.bool true, .int .i64 x.age, .int .i64 x.due] 52)) (by intro y hy; simp only [List.mem_singleton] at hy; exact .inr (by omega)) : Fr [] w1 (w3.alloc (.cells #[.bool true, .int .i64 x.age, .int .i64 x.due] 52)))
                have HSZ := Lib.hid hszx
                clear hO4 hnew hst hszx fwx
                go_wp2_with (at_builtin; refine wpList_append_own _ rfl _ _ 26 rfl w1.heap.size 52 i0 (.agg #[.bool false, .int .i64 0, .int .i64 0]) 3 24 Try.underlying26 HI.out HZ0.out HZ1.out HZ2.out rfl (by decide) _ _ _ rfl O4.out ⟨w3.heap.size, 0, none⟩ 1 1 [.bool true, .int .i64 x.age, .int .i64 x.due] rfl rfl NW.out (by simp [Value.oneCell']) ?c3 ?c4 ?c5 ?_)
                case c3 => unfold maxLen; omega
                case c4 => omega
                case c5 => first | omega | (simp; omega)
                intro v' w5 hown' hgrow _
                have hown2 : w5.ownsRow w1.heap.size 52 3 v' (j + 1) (mcells ((M.take (j + 1)).map tickM)) := by
                  rw [HT'.out, ST.out]
                  first | exact hown' | (rw [List.map_take]; exact hown')
                have hF5 : Fr [] w1 w5 := by
                  refine F4.out.trans (Fr.of_grown hgrow ((Value.ownBlock (.slice ao j co)).toList) (fun k hk => .inl (by simp [hk]))) ?_
                  intro k hk
                  simp only [Option.mem_toList] at hk
                  exact .inr (O4.out.lt k hk).1
                have O5 := Lib.hid hown2
                have F5 := Lib.hid hF5
                clear hown' hgrow hown2 hF5
                go_wp2_with fail
                go_roundg (n - (j + 1))
                case measure => omega
                case rel => exact ⟨j + 1, rfl, by omega, rfl, O5.out, HN'.out NZ.out, F5.out⟩
            · have dg0 : decide (x.age ≥ 0) = false := decide_eq_false hg0
              have TA := Lib.hid (show tickA x = x.age by unfold tickA; split <;> (try split) <;> omega)
              have hszx : w3.heap.size = w3.heap.size := by simp
              have fwx : Fr [wr.heap.size] w3 w3 := (Fr.refl _ w3)
              have hO4 : (w3.alloc (.cells #[.bool true, .int .i64 x.age, .int .i64 x.due] 52)).ownsRow w1.heap.size 52 3 (.slice ao j co) j (mcells ((M.take j).map tickM)) := own_keep O3.out (fwx.alloc _) (fun y hy hm => by simp only [List.mem_singleton] at hm; have := (O.out.lt y hy).2; omega)
              have hnew : ∀ i u, ([.bool true, .int .i64 x.age, .int .i64 x.due] : List Value)[i]? = some u → (w3.alloc (.cells #[.bool true, .int .i64 x.age, .int .i64 x.due] 52)).cell? ((⟨w3.heap.size, 0, none⟩ : Addr).add i) = some u := by
                intro i u hi
                rw [Addr_add, Nat.zero_add]
                have hrn := Row.new w3 [.bool true, .int .i64 x.age, .int .i64 x.due] 52
                rw [hszx] at hrn
                exact (hrn.cell i).trans hi
              have hst : (tickM x).cells = [.bool true, .int .i64 x.age, .int .i64 x.due] := by rw [tickM_cells x (x.age) (x.due) TA.out TU.out, HINN.out]
              have O4 := Lib.hid hO4
              have NW := Lib.hid hnew
              have ST := Lib.hid hst
              have F4 := Lib.hid (F3.out.trans (fwx.alloc (.cells #[.bool true, .int .i64 x.age, .int .i64 x.due] 52)) (by intro y hy; simp only [List.mem_singleton] at hy; exact .inr (by omega)) : Fr [] w1 (w3.alloc (.cells #[.bool true, .int .i64 x.age, .int .i64 x.due] 52)))
              have HSZ := Lib.hid hszx
              clear hO4 hnew hst hszx fwx
              go_wp2_with (at_builtin; refine wpList_append_own _ rfl _ _ 26 rfl w1.heap.size 52 i0 (.agg #[.bool false, .int .i64 0, .int .i64 0]) 3 24 Try.underlying26 HI.out HZ0.out HZ1.out HZ2.out rfl (by decide) _ _ _ rfl O4.out ⟨w3.heap.size, 0, none⟩ 1 1 [.bool true, .int .i64 x.age, .int .i64 x.due] rfl rfl NW.out (by simp [Value.oneCell']) ?c3 ?c4 ?c5 ?_)
              case c3 => unfold maxLen; omega
              case c4 => omega
              case c5 => first | omega | (simp; omega)
              intro v' w5 hown' hgrow _
              have hown2 : w5.ownsRow w1.heap.size 52 3 v' (j + 1) (mcells ((M.take (j + 1)).map tickM)) := by
                rw [HT'.out, ST.out]
                first | exact hown' | (rw [List.map_take]; exact hown')
              have hF5 : Fr [] w1 w5 := by
                refine F4.out.trans (Fr.of_grown hgrow ((Value.ownBlock (.slice ao j co)).toList) (fun k hk => .inl (by simp [hk]))) ?_
                intro k hk
                simp only [Option.mem_toList] at hk
                exact .inr (O4.out.lt k hk).1
              have O5 := Lib.hid hown2
              have F5 := Lib.hid hF5
              clear hown' hgrow hown2 hF5
              go_wp2_with fail
              go_roundg (n - (j + 1))
              case measure => omega
              case rel => exact ⟨j + 1, rfl, by omega, rfl, O5.out, HN'.out NZ.out, F5.out⟩
        · have d1 : decide (x.due > 0) = false := decide_eq_false h1
          have TU := Lib.hid (show tickU x = x.due by unfold tickU; rw [if_neg (fun h => h1 h.2.1)])
          clear hin h0
          by_cases hg0 : x.age ≥ 0
          · have dg0 : decide (x.age ≥ 0) = true := decide_eq_true hg0
            by_cases hg1 : x.age < 65536
            · have dg1 : decide (x.age < 65536) = true := decide_eq_true hg1
              have TA := Lib.hid (show tickA x = x.age + 1 by unfold tickA; split <;> (try split) <;> omega)
              have a0 : (w3.setCell ⟨wr.heap.size, 1, none⟩ (.int .i64 (x.age + 1))).cell? ⟨wr.heap.size, 0, none⟩ = some (.bool true) := by rw [← HINN.out]; exact (R3.out.setCell 1 (.int .i64 (x.age + 1))).cell 0
              have a1 : (w3.setCell ⟨wr.heap.size, 1, none⟩ (.int .i64 (x.age + 1))).cell? ⟨wr.heap.size, 1, none⟩ = some (.int .i64 (x.age + 1)) := (R3.out.setCell 1 (.int .i64 (x.age + 1))).cell 1
              have a2 : (w3.setCell ⟨wr.heap.size, 1, none⟩ (.int .i64 (x.age + 1))).cell? ⟨wr.heap.size, 2, none⟩ = some (.int .i64 x.due) := (R3.out.setCell 1 (.int .i64 (x.age + 1))).cell 2
              have a3 : (w3.setCell ⟨wr.heap.size, 1, none⟩ (.int .i64 (x.age + 1))).frozen? ⟨wr.heap.size, 2, none⟩ = false := (R3.out.setCell 1 (.int .i64 (x.age + 1))).frozen 2
              have hszx : (w3.setCell ⟨wr.heap.size, 1, none⟩ (.int .i64 (x.age + 1))).heap.size = w3.heap.size := by simp
              have fwx : Fr [wr.heap.size] w3 (w3.setCell ⟨wr.heap.size, 1, none⟩ (.int .i64 (x.age + 1))) := ((Fr.refl _ w3).setCell (p := ⟨wr.heap.size, 1, none⟩) (.inl (by simp)) _)
              have hO4 : ((w3.setCell ⟨wr.heap.size, 1, none⟩ (.int .i64 (x.age + 1))).alloc (.cells #[.bool true, .int .i64 (x.age + 1), .int .i64 x.due] 52)).ownsRow w1.heap.size 52 3 (.slice ao j co) j (mcells ((M.take j).map tickM)) := own_keep O3.out (fwx.alloc _) (fun y hy hm => by simp only [List.mem_singleton] at hm; have := (O.out.lt y hy).2; omega)
              have hnew : ∀ i u, ([.bool true, .int .i64 (x.age + 1), .int .i64 x.due] : List Value)[i]? = some u → ((w3.setCell ⟨wr.heap.size, 1, none⟩ (.int .i64 (x.age + 1))).alloc (.cells #[.bool true, .int .i64 (x.age + 1), .int .i64 x.due] 52)).cell? ((⟨w3.heap.size, 0, none⟩ : Addr).add i) = some u := by
                intro i u hi
                rw [Addr_add, Nat.zero_add]
                have hrn := Row.new (w3.setCell ⟨wr.heap.size, 1, none⟩ (.int .i64 (x.age + 1))) [.bool true, .int .i64 (x.age + 1), .int .i64 x.due] 52
                rw [hszx] at hrn
                exact (hrn.cell i).trans hi
              have hst : (tickM x).cells = [.bool true, .int .i64 (x.age + 1), .int .i64 x.due] := by rw [tickM_cells x ((x.age + 1)) (x.due) TA.out TU.out, HINN.out]
              have O4 := Lib.hid hO4
              have NW := Lib.hid hnew
              have ST := Lib.hid hst
              have F4 := Lib.hid (F3.out.trans (fwx.alloc (.cells #[.bool true, .int .i64 (x.age + 1), .int .i64 x.due] 52)) (by intro y hy; simp only [List.mem_singleton] at hy; exact .inr (by omega)) : Fr [] w1 ((w3.setCell ⟨wr.heap.size, 1, none⟩ (.int .i64 (x.age + 1))).alloc (.cells #[.bool true, .int .i64 (x.age + 1), .int .i64 x.due] 52)))
              have HSZ := Lib.hid hszx
              clear hO4 hnew hst hszx fwx
              go_wp2_with (at_builtin; refine wpList_append_own _ rfl _ _ 26 rfl w1.heap.size 52 i0 (.agg #[.bool false, .int .i64 0, .int .i64 0]) 3 24 Try.underlying26 HI.out HZ0.out HZ1.out HZ2.out rfl (by decide) _ _ _ rfl O4.out ⟨w3.heap.size, 0, none⟩ 1 1 [.bool true, .int .i64 (x.age + 1), .int .i64 x.due] rfl rfl NW.out (by simp [Value.oneCell']) ?c3 ?c4 ?c5 ?_)
              case c3 => unfold maxLen; omega
              case c4 => omega
              case c5 => first | omega | (simp; omega)
              intro v' w5 hown' hgrow _
              have hown2 : w5.ownsRow w1.heap.size 52 3 v' (j + 1) (mcells ((M.take (j + 1)).map tickM)) := by
                rw [HT'.out, ST.out]
                first | exact hown' | (rw [List.map_take]; exact hown')
              have hF5 : Fr [] w1 w5 := by
                refine F4.out.trans (Fr.of_grown hgrow ((Value.ownBlock (.slice ao j co)).toList) (fun k hk => .inl (by simp [hk]))) ?_
                intro k hk
                simp only [Option.mem_toList] at hk
                exact .inr (O4.out.lt k hk).1
              have O5 := Lib.hid hown2
              have F5 := Lib.hid hF5
              clear hown' hgrow hown2 hF5
              go_wp2_with fail
              go_roundg (n - (j + 1))
              case measure => omega
              case rel => exact ⟨j + 1, rfl, by omega, rfl, O5.out, HN'.out NZ.out, F5.out⟩
            · have dg1 : decide (x.age < 65536) = false := decide_eq_false hg1
              have TA := Lib.hid (show tickA x = x.age by unfold tickA; split <;> (try split) <;> omega)
              have hszx : w3.heap.size = w3.heap.size := by simp
              have fwx : Fr [wr.heap.size] w3 w3 := (Fr.refl _ w3)
              have hO4 : (w3.alloc (.cells #[.bool true, .int .i64 x.age, .int .i64 x.due] 52)).ownsRow w1.heap.size 52 3 (.slice ao j co) j (mcells ((M.take j).map tickM)) := own_keep O3.out (fwx.alloc _) (fun y hy hm => by simp only [List.mem_singleton] at hm; have := (O.out.lt y hy).2; omega)
              have hnew : ∀ i u, ([.bool true, .int .i64 x.age, .int .i64 x.due] : List Value)[i]? = some u → (w3.alloc (.cells #[.bool true, .int .i64 x.age, .int .i64 x.due] 52)).cell? ((⟨w3.heap.size, 0, none⟩ : Addr).add i) = some u := by
                intro i u hi
                rw [Addr_add, Nat.zero_add]
                have hrn := Row.new w3 [.bool true, .int .i64 x.age, .int .i64 x.due] 52
                rw [hszx] at hrn
                exact (hrn.cell i).trans hi
              have hst : (tickM x).cells = [.bool true, .int .i64 x.age, .int .i64 x.due] := by rw [tickM_cells x (x.age) (x.due) TA.out TU.out, HINN.out]
              have O4 := Lib.hid hO4
              have NW := Lib.hid hnew
              have ST := Lib.hid hst
              have F4 := Lib.hid (F3.out.trans (fwx.alloc (.cells #[.bool true, .int .i64 x.age, .int .i64 x.due] 52)) (by intro y hy; simp only [List.mem_singleton] at hy; exact .inr (by omega)) : Fr [] w1 (w3.alloc (.cells #[.bool true, .int .i64 x.age, .int .i64 x.due] 52)))
              have HSZ := Lib.hid hszx
              clear hO4 hnew hst hszx fwx
              go_wp2_with (at_builtin; refine wpList_append_own _ rfl _ _ 26 rfl w1.heap.size 52 i0 (.agg #[.bool false, .int .i64 0, .int .i64 0]) 3 24 Try.underlying26 HI.out HZ0.out HZ1.out HZ2.out rfl (by decide) _ _ _ rfl O4.out ⟨w3.heap.size, 0, none⟩ 1 1 [.bool true, .int .i64 x.age, .int .i64 x.due] rfl rfl NW.out (by simp [Value.oneCell']) ?c3 ?c4 ?c5 ?_)
              case c3 => unfold maxLen; omega
              case c4 => omega
              case c5 => first | omega | (simp; omega)
              intro v' w5 hown' hgrow _
              have hown2 : w5.ownsRow w1.heap.size 52 3 v' (j + 1) (mcells ((M.take (j + 1)).map tickM)) := by
                rw [HT'.out, ST.out]
                first | exact hown' | (rw [List.map_take]; exact hown')
              have hF5 : Fr [] w1 w5 := by
                refine F4.out.trans (Fr.of_grown hgrow ((Value.ownBlock (.slice ao j co)).toList) (fun k hk => .inl (by simp [hk]))) ?_
                intro k hk
                simp only [Option.mem_toList] at hk
                exact .inr (O4.out.lt k hk).1
              have O5 := Lib.hid hown2
              have F5 := Lib.hid hF5
              clear hown' hgrow hown2 hF5
              go_wp2_with fail
              go_roundg (n - (j + 1))
              case measure => omega
              case rel => exact ⟨j + 1, rfl, by omega, rfl, O5.out, HN'.out NZ.out, F5.out⟩
          · have dg0 : decide (x.age ≥ 0) = false := decide_eq_false hg0
            have TA := Lib.hid (show tickA x = x.age by unfold tickA; split <;> (try split) <;> omega)
            have hszx : w3.heap.size = w3.heap.size := by simp
            have fwx : Fr [wr.heap.size] w3 w3 := (Fr.refl _ w3)
            have hO4 : (w3.alloc (.cells #[.bool true, .int .i64 x.age, .int .i64 x.due] 52)).ownsRow w1.heap.size 52 3 (.slice ao j co) j (mcells ((M.take j).map tickM)) := own_keep O3.out (fwx.alloc _) (fun y hy hm => by simp only [List.mem_singleton] at hm; have := (O.out.lt y hy).2; omega)
            have hnew : ∀ i u, ([.bool true, .int .i64 x.age, .int .i64 x.due] : List Value)[i]? = some u → (w3.alloc (.cells #[.bool true, .int .i64 x.age, .int .i64 x.due] 52)).cell? ((⟨w3.heap.size, 0, none⟩ : Addr).add i) = some u := by
              intro i u hi
              rw [Addr_add, Nat.zero_add]
              have hrn := Row.new w3 [.bool true, .int .i64 x.age, .int .i64 x.due] 52
              rw [hszx] at hrn
              exact (hrn.cell i).trans hi
            have hst : (tickM x).cells = [.bool true, .int .i64 x.age, .int .i64 x.due] := by rw [tickM_cells x (x.age) (x.due) TA.out TU.out, HINN.out]
            have O4 := Lib.hid hO4
            have NW := Lib.hid hnew
            have ST := Lib.hid hst
            have F4 := Lib.hid (F3.out.trans (fwx.alloc (.cells #[.bool true, .int .i64 x.age, .int .i64 x.due] 52)) (by intro y hy; simp only [List.mem_singleton] at hy; exact .inr (by omega)) : Fr [] w1 (w3.alloc (.cells #[.bool true, .int .i64 x.age, .int .i64 x.due] 52)))
            have HSZ := Lib.hid hszx
            clear hO4 hnew hst hszx fwx
            go_wp2_with (at_builtin; refine wpList_append_own _ rfl _ _ 26 rfl w1.heap.size 52 i0 (.agg #[.bool false, .int .i64 0, .int .i64 0]) 3 24 Try.underlying26 HI.out HZ0.out HZ1.out HZ2.out rfl (by decide) _ _ _ rfl O4.out ⟨w3.heap.size, 0, none⟩ 1 1 [.bool true, .int .i64 x.age, .int .i64 x.due] rfl rfl NW.out (by simp [Value.oneCell']) ?c3 ?c4 ?c5 ?_)
            case c3 => unfold maxLen; omega
            case c4 => omega
            case c5 => first | omega | (simp; omega)
            intro v' w5 hown' hgrow _
            have hown2 : w5.ownsRow w1.heap.size 52 3 v' (j + 1) (mcells ((M.take (j + 1)).map tickM)) := by
              rw [HT'.out, ST.out]
              first | exact hown' | (rw [List.map_take]; exact hown')
            have hF5 : Fr [] w1 w5 := by
              refine F4.out.trans (Fr.of_grown hgrow ((Value.ownBlock (.slice ao j co)).toList) (fun k hk => .inl (by simp [hk]))) ?_
              intro k hk
              simp only [Option.mem_toList] at hk
              exact .inr (O4.out.lt k hk).1
            have O5 := Lib.hid hown2
            have F5 := Lib.hid hF5
            clear hown' hgrow hown2 hF5
            go_wp2_with fail
            go_roundg (n - (j + 1))
            case measure => omega
            case rel => exact ⟨j + 1, rfl, by omega, rfl, O5.out, HN'.out NZ.out, F5.out⟩
    · have hd : decide (j < n) = false := by rw [decide_eq_false_iff_not]; omega
      obtain rfl : n = j := by omega
      have hfull : M.take n = M := List.take_of_length_le (by rw [HL.out]; omega)
      rw [hfull] at O HND
      have HE := Lib.hid (tickE_go HFIT.out HND.out)
      clear hfull
      go_wp2_with fail
      go_ret2
      rw [HE.out]
      exact next_ownF (by rw [List.length_map, HL.out]) O.out FW.out (by have := F1.out.size; omega)
set_option maxRecDepth 100000 in
set_option maxHeartbeats 8000000 in
theorem rdo_fresh (f : FlatD) (a : Option Addr) (n c : Nat) (M : List MarkD) (i : Int) (w : World) (hf : FlatAt w f) (h : MarksAt w a n M) (hn : n ≤ 100000) :
    Calls Try.prog 30 #[f.val, .slice a n c, .int .i64 i] w (NextF (doM f M i.toNat) (doE f M i) w) := by
  obtain ⟨ea, en, ec, ta, tn, tc, E, T⟩ := f
  have hen : en ≤ 100000 := hf.few
  have htn : tn ≤ 100000 := hf.few2
  obtain ⟨i0, hi, hz0, hz1, hz2⟩ := info_parts infoM
  have HI := Lib.hid hi
  have HZ0 := Lib.hid hz0
  have HZ1 := Lib.hid hz1
  have HZ2 := Lib.hid hz2
  clear hi hz0 hz1 hz2
  have hr := (Fr.refl [] w).alloc (.cells #[.slice ea en ec, .slice ta tn tc] 31)
  have rb := Row.new w [.slice ea en ec, .slice ta tn tc] 31
  have HR := Lib.hid hr
  have RB := Lib.hid rb
  have HF := Lib.hid hf
  have HM := Lib.hid h
  have HL := Lib.hid h.1
  have C1 := rfits_any ⟨ea, en, ec, ta, tn, tc, E, T⟩ a n c M _ (h.fr hr) hn hen
  clear hf h hr rb
  simp only [FlatD.val] at C1 ⊢
  go_enter Try.func30, Try.ntmps30
  go_wp2_with fail
  refine C1.mono ?_
  rintro e w1 ⟨rfl, hF⟩
  have F1 := Lib.hid (HR.out.trans hF (by simp))
  have x0 : w1.cell? ⟨w.heap.size, 0, none⟩ = some (.slice ea en ec) := (RB.out.fr hF (by simp)).cell 0
  have x1 : w1.cell? ⟨w.heap.size, 1, none⟩ = some (.slice ta tn tc) := (RB.out.fr hF (by simp)).cell 1
  clear hF C1
  cases hfit : fitsB en M
  · have HS := Lib.hid (doE_nofit (f := ⟨ea, en, ec, ta, tn, tc, E, T⟩) (i := i) hfit)
    clear hfit
    go_wp2_with fail
    go_ret2
    rw [HS.out]
    exact nextF_err (by decide) rfl F1.out
  have HFIT := Lib.hid hfit
  have HEN := Lib.hid (show n = en by rw [← HL.out]; exact fits_len hfit)
  clear hfit
  by_cases h0 : i < 0
  · have d0 : decide (i < 0) = true := decide_eq_true h0
    have HS := Lib.hid (doE_range (f := ⟨ea, en, ec, ta, tn, tc, E, T⟩) HFIT.out (.inl h0))
    clear h0
    go_wp2_with fail
    go_ret2
    rw [HS.out]
    exact nextF_err (by decide) rfl F1.out
  obtain ⟨k, rfl⟩ := Int.eq_ofNat_of_zero_le (by omega : 0 ≤ i)
  have d0 : decide ((k : Int) < 0) = false := decide_eq_false h0
  clear h0
  by_cases h1 : k < n
  case neg =>
    have d1 : decide (n ≤ k) = true := decide_eq_true (by omega)
    have HS := Lib.hid (doE_range (f := ⟨ea, en, ec, ta, tn, tc, E, T⟩) (i := k) HFIT.out (.inr (by rw [HL.out]; omega)))
    clear h1
    go_wp2_with fail
    go_ret2
    rw [HS.out]
    exact nextF_err (by decide) rfl F1.out
  have d1 : decide (n ≤ k) = false := decide_eq_false (by omega)
  have C2 := renab_any ⟨ea, en, ec, ta, tn, tc, E, T⟩ a n c M k w1 (HF.out.fr F1.out) (HM.out.fr F1.out) hn
  simp only [FlatD.val] at C2
  go_wp2_with fail
  refine C2.mono ?_
  rintro e w4 ⟨rfl, hF4⟩
  have F4 := Lib.hid (F1.out.trans hF4 (by simp))
  have y0 := cell_fr x0 hF4
  have y1 := cell_fr x1 hF4
  clear hF4 C2 x0 x1
  cases he : enabB ⟨ea, en, ec, ta, tn, tc, E, T⟩ M k
  · have HS := Lib.hid (doE_off (f := ⟨ea, en, ec, ta, tn, tc, E, T⟩) (k := k) HFIT.out (by rw [HL.out]; exact h1) he)
    clear he
    go_wp2_with fail
    go_ret2
    rw [HS.out]
    exact nextF_err (by decide) rfl F4.out
  have HS := Lib.hid (doE_go (f := ⟨ea, en, ec, ta, tn, tc, E, T⟩) (k := k) HFIT.out (by rw [HL.out]; exact h1) he)
  clear he
  obtain ⟨bm, om, rfl, _, _⟩ := (HM.out.fr F4.out).2.at_ (by omega)
  have HW := Lib.hid (own_empty w4 52 3)
  have NW := Lib.hid (src_of_marks ((HM.out.fr F4.out).fr ((Fr.refl [] w4).alloc (.cells #[] 52))))
  have HLN := Lib.hid (show (mcells M).length = n * 3 by rw [mcells_length, HL.out])
  go_wp2_with (at_builtin; refine wpList_append_own _ rfl _ _ 26 rfl w4.heap.size 52 i0 (.agg #[.bool false, .int .i64 0, .int .i64 0]) 3 24 Try.underlying26 HI.out HZ0.out HZ1.out HZ2.out rfl (by decide) _ _ _ rfl HW.out ⟨bm, om, none⟩ n c (mcells M) rfl HLN.out NW.out (mcells_one M) ?c3 ?c4 ?c5 ?_)
  case c3 => unfold maxLen; omega
  case c4 => omega
  case c5 => first | omega | (simp; done) | (simp; omega)
  intro v' w6 hown' hgrow _
  have hF6 : Fr [] w4 w6 := ((Fr.refl [] w4).alloc (.cells #[] 52)).trans (Fr.of_grown hgrow [w4.heap.size] (fun q hq => by simp [Value.ownBlock] at hq; exact .inl (by simp [hq]))) (by simp)
  obtain ⟨g, cap, C, rfl, hgb, hR6⟩ : ∃ g cap C, v' = .slice (some ⟨g, 0, none⟩) n cap ∧ w4.heap.size ≤ g ∧ Row w6 g (mcells M ++ C) 52 := by
    rcases hown'.2 with ⟨_, hz⟩ | ⟨g, cap, cur, rfl, hb, hg, hn', hcm, hcs, ht⟩
    · omega
    · refine ⟨g, cap, cur.toList.drop (n * 3), rfl, hb, ?_⟩
      show w6.heap[g]? = _
      rw [← ht, List.take_append_drop]
      exact hg
  have F6 := Lib.hid (F4.out.trans hF6 (by simp))
  have hkl : k < M.length := by rw [HL.out]; exact h1
  have c1 : w6.cell? ⟨g, k * 3 + 1, none⟩ = some (.int .i64 (M.getD k default).age) := rowC_at hR6 hkl rfl 1 (by omega)
  have f1 : w6.frozen? ⟨g, k * 3 + 1, none⟩ = false := hR6.frozen _
  have r6 := hR6.setCell (k * 3 + 1) (.int .i64 0)
  have c2 : (w6.setCell ⟨g, k * 3 + 1, none⟩ (.int .i64 0)).cell? ⟨g, k * 3 + 2, none⟩ = some (.int .i64 (M.getD k default).due) := rowC_at (rowCA hR6 hkl rfl 0) (by rw [List.length_set]; exact hkl) (getD_set_same _ _ _ hkl) 2 (by omega)
  have f2 : (w6.setCell ⟨g, k * 3 + 1, none⟩ (.int .i64 0)).frozen? ⟨g, k * 3 + 2, none⟩ = false := r6.frozen _
  have RD := Lib.hid (rowC_done hR6 hkl)
  have FD := Lib.hid (((Fr.refl [g] w6).setCell (p := ⟨g, k * 3 + 1, none⟩) (.inl (by simp)) (.int .i64 0)).setCell (p := ⟨g, k * 3 + 2, none⟩) (.inl (by simp)) (.int .i64 (-1)))
  have hws : w.heap.size < w4.heap.size := World.block_lt_of_cell? _ _ y0
  have hgn : w.heap.size ≠ g := by omega
  have e0 := cell_fr y0 hF6
  have e1 := cell_fr y1 hF6
  have HG := Lib.hid hgb
  clear hown' hgrow hF6 hR6 r6 y0 y1
  go_wp2_with fail
  generalize hW0 : ((w6.setCell ⟨g, k * 3 + 1, none⟩ (.int .i64 0)).setCell ⟨g, k * 3 + 2, none⟩ (.int .i64 (-1))) = W0 at RD FD ⊢
  clear hW0 c1 c2 f1 f2
  have HB := Lib.hid (show (doneM M k).length = n by unfold doneM; rw [List.length_set, HL.out])
  have HGO := Lib.hid (doneM_good M k (fits_good HFIT.out))
  have HEX := Lib.hid hgn
  have HWS := Lib.hid hws
  clear hgn hws hkl
  go_loopg [9] tn (fun k' i wr => ∃ (j : Nat), k' = tn - j ∧ j ≤ tn ∧ i = .int .i64 j ∧ Row wr g (mcells (doK 2 k en (T.take j) (doneM M k)) ++ C) 52 ∧ Fr [g] w6 wr)
  case atStart => exact ⟨0, rfl, by omega, rfl, RD.out, FD.out⟩
  case round =>
    obtain ⟨j, rfl, hj, rfl, hR, hF⟩ := hrel
    have R := Lib.hid hR
    have F := Lib.hid hF
    have z0 : wr.cell? ⟨w.heap.size, 0, none⟩ = some (.slice ea en ec) := cell_frS e0 hF HEX.out
    have z1 : wr.cell? ⟨w.heap.size, 1, none⟩ = some (.slice ta tn tc) := cell_frS e1 hF HEX.out
    clear hR hF
    by_cases hjn : j < tn
    · have hd : decide (j < tn) = true := decide_eq_true hjn
      have FW := Lib.hid (F6.out.trans F.out (by intro y hy; simp at hy; have h1 := F4.out.size; have h2 := HG.out; exact .inr (by omega)))
      obtain ⟨b1, o1, rfl, hb1, hc1⟩ := (HF.out.fr FW.out).ties.2.at_ (by show 0 < tn; omega)
      have hcx := hc1 j hjn
      have hlen := doK_length 2 k en (T.take j) (doneM M k)
      have hsu := doK_succ 2 k en T j (by have h : T.length = tn := HF.out.ties.1; omega) (doneM M k)
      have hgood := doK_good 2 k en (T.take j) (doneM M k) HGO.out
      generalize T.getD j default = t at hcx hsu
      have hc' : ∀ k' v, ([.int .i64 t.kind, .int .i64 t.src, .int .i64 t.dst, .int .i64 t.time] : List Value)[k']? = some v → wr.cell? ⟨b1, o1 + j * 4 + k', none⟩ = some v := hcx
      have HC := Lib.hid hc'
      have HSU := Lib.hid hsu
      have HLEN := Lib.hid (hlen.trans HB.out)
      have HGD := Lib.hid hgood
      clear hcx hc' hc1 hsu hlen hgood
      generalize doK 2 k en (T.take j) (doneM M k) = N at R HSU HLEN HGD
      go_wp2_with (first | ((with_reducible refine wpList_load_at rfl 105 (.tmp 54) rfl agg105 4 size105 b1 (o1 + j * 4) [.int .i64 t.kind, .int .i64 t.src, .int .i64 t.dst, .int .i64 t.time] rfl HC.out ?_ ?_); exact rfl) | ((with_reducible refine wpList_var_agg rfl rfl 105 (.tmp 10) (.tmp 55) rfl rfl 4 zero105 [.int .i64 t.kind, .int .i64 t.src, .int .i64 t.dst, .int .i64 t.time] rfl ?_ ?_ ?_ ?_); (intro u hu; simp at hu; rcases hu with rfl | rfl | rfl | rfl <;> rfl); exact rfl; exact rfl))
      intro w7 hr7 hs7 hf7
      have R7 := Lib.hid (R.out.fr hf7 (by simp))
      have F7 := Lib.hid (F.out.trans hf7 (by simp))
      have hsz7 := hf7.size
      have t0 : w7.cell? ⟨wr.heap.size, 0, none⟩ = some (.int .i64 t.kind) := hr7.cell 0
      have t1 : w7.cell? ⟨wr.heap.size, 1, none⟩ = some (.int .i64 t.src) := hr7.cell 1
      have t2 : w7.cell? ⟨wr.heap.size, 2, none⟩ = some (.int .i64 t.dst) := hr7.cell 2
      have t3 : w7.cell? ⟨wr.heap.size, 3, none⟩ = some (.int .i64 t.time) := hr7.cell 3
      have p0 := cell_fr z0 hf7
      have p1 := cell_fr z1 hf7
      clear hr7 hs7 hf7 z0 z1
      by_cases hkd : t.kind = 2
      case neg =>
        have ek : (t.kind == 2) = false := beq_eq_false_iff_ne.2 hkd
        have HST := Lib.hid (HSU.out.trans (stepK_no (fun h => hkd h.1)))
        clear hkd
        go_wp2_with fail
        go_roundg (tn - (j + 1))
        case measure => omega
        case rel => exact ⟨j + 1, rfl, by omega, rfl, by rw [HST.out]; exact R7.out, F7.out⟩
      have ek : (t.kind == 2) = true := beq_iff_eq.2 hkd
      by_cases hsr : t.src = k
      case neg =>
        have es : (t.src == (k : Int)) = false := beq_eq_false_iff_ne.2 hsr
        have HST := Lib.hid (HSU.out.trans (stepK_no (fun h => hsr h.2.1)))
        clear hkd hsr
        go_wp2_with fail
        go_roundg (tn - (j + 1))
        case measure => omega
        case rel => exact ⟨j + 1, rfl, by omega, rfl, by rw [HST.out]; exact R7.out, F7.out⟩
      have es : (t.src == (k : Int)) = true := beq_iff_eq.2 hsr
      have C8 := rtwo_any ⟨ea, en, ec, some ⟨b1, o1, none⟩, tn, tc, E, T⟩ t w7
      simp only [FlatD.val, TieD.val] at C8
      have HKD := Lib.hid hkd
      have HSR := Lib.hid hsr
      clear hkd hsr
      go_wp2_with fail
      refine C8.mono ?_
      rintro e w8 ⟨rfl, hF8⟩
      have R8 := Lib.hid (R7.out.fr hF8 (by simp))
      have F8 := Lib.hid (F7.out.trans hF8 (by simp))
      have s2 := cell_fr t2 hF8
      have s3 := cell_fr t3 hF8
      clear hF8 C8 t0 t1 t2 t3 p0 p1
      cases hb : t.between en
      · have HST := Lib.hid (HSU.out.trans (stepK_no (fun h => by rw [hb] at h; simp at h)))
        clear hb
        go_wp2_with fail
        go_roundg (tn - (j + 1))
        case measure => omega
        case rel => exact ⟨j + 1, rfl, by omega, rfl, by rw [HST.out]; exact R8.out, F8.out⟩
      have hbb : 0 ≤ t.src ∧ t.src < en ∧ 0 ≤ t.dst ∧ t.dst < en := by simpa [TieD.between] using hb
      obtain ⟨dn, hdn⟩ := Int.eq_ofNat_of_zero_le hbb.2.2.1
      have hdl : dn < n := by have := HEN.out; omega
      have hNl : dn < N.length := by rw [HLEN.out]; exact hdl
      have HST := Lib.hid (HSU.out.trans (stepK_yes ⟨HKD.out, HSR.out, hb⟩ hdn))
      have hgx := (bad_iff _).1 (getD_good N dn HGD.out)
      rw [hdn] at s2
      clear hb hbb hdn
      have v0 : w8.cell? ⟨g, dn * 3, none⟩ = some (.bool (N.getD dn default).inn) := rowC_at R8.out hNl rfl 0 (by omega)
      have v2 : w8.cell? ⟨g, dn * 3 + 2, none⟩ = some (.int .i64 (N.getD dn default).due) := rowC_at R8.out hNl rfl 2 (by omega)
      have v0f : w8.frozen? ⟨g, dn * 3, none⟩ = false := R8.out.frozen _
      have v2f : w8.frozen? ⟨g, dn * 3 + 2, none⟩ = false := R8.out.frozen _
      have HXX := Lib.hid (rfl : N.getD dn default = N.getD dn default)
      have HNL := Lib.hid hNl
      generalize hxx : N.getD dn default = x at v0 v2 HST hgx
      have HX := Lib.hid hxx
      clear hxx HXX hNl
      by_cases hu : x.due ≥ 0
      · have du : decide (x.due ≥ 0) = true := decide_eq_true hu
        go_wp2_with fail
        all_goals
          go_roundg (tn - (j + 1))
          case measure => omega
          case rel => exact ⟨j + 1, rfl, by omega, rfl, by rw [HST.out]; exact rowCD R8.out HNL.out HX.out _ (apply2 (by unfold clampD; split <;> (try split) <;> (try split) <;> omega)), F8.out.setCell (by simp) _⟩
      · have du : decide (x.due ≥ 0) = false := decide_eq_false hu
        go_wp2_with fail
        all_goals
          go_roundg (tn - (j + 1))
          case measure => omega
          case rel => exact ⟨j + 1, rfl, by omega, rfl, by rw [HST.out]; exact rowCD R8.out HNL.out HX.out _ (apply2 (by unfold clampD; split <;> (try split) <;> (try split) <;> omega)), F8.out.setCell (by simp) _⟩
    · have hd : decide (j < tn) = false := decide_eq_false hjn
      obtain rfl : tn = j := by omega
      have hfull : T.take tn = T := List.take_of_length_le (by have h : T.length = tn := HF.out.ties.1; omega)
      have hR := R.out
      rw [hfull] at hR
      have RD := Lib.hid hR
      have FD := Lib.hid F.out
      have HB := Lib.hid ((doK_length 2 k en T (doneM M k)).trans HB.out)
      have HGO := Lib.hid (doK_good 2 k en T (doneM M k) HGO.out)
      clear hfull hR
      go_wp2_with fail
      clear z0 z1
      go_loopg [12] tn (fun k' i wr => ∃ (j : Nat), k' = tn - j ∧ j ≤ tn ∧ i = .int .i64 j ∧ Row wr g (mcells (doK 4 k en (T.take j) (doK 2 k en T (doneM M k))) ++ C) 52 ∧ Fr [g] w6 wr)
      case atStart => exact ⟨0, rfl, by omega, rfl, RD.out, FD.out⟩
      case round =>
        obtain ⟨j, rfl, hj, rfl, hR, hF⟩ := hrel
        have R := Lib.hid hR
        have F := Lib.hid hF
        have z0 : wr.cell? ⟨w.heap.size, 0, none⟩ = some (.slice ea en ec) := cell_frS e0 hF HEX.out
        have z1 : wr.cell? ⟨w.heap.size, 1, none⟩ = some (.slice ta tn tc) := cell_frS e1 hF HEX.out
        clear hR hF
        by_cases hjn : j < tn
        · have hd : decide (j < tn) = true := decide_eq_true hjn
          have FW := Lib.hid (F6.out.trans F.out (by intro y hy; simp at hy; have h1 := F4.out.size; have h2 := HG.out; exact .inr (by omega)))
          obtain ⟨b1, o1, rfl, hb1, hc1⟩ := (HF.out.fr FW.out).ties.2.at_ (by show 0 < tn; omega)
          have hcx := hc1 j hjn
          have hlen := doK_length 4 k en (T.take j) (doK 2 k en T (doneM M k))
          have hsu := doK_succ 4 k en T j (by have h : T.length = tn := HF.out.ties.1; omega) (doK 2 k en T (doneM M k))
          have hgood := doK_good 4 k en (T.take j) (doK 2 k en T (doneM M k)) HGO.out
          generalize T.getD j default = t at hcx hsu
          have hc' : ∀ k' v, ([.int .i64 t.kind, .int .i64 t.src, .int .i64 t.dst, .int .i64 t.time] : List Value)[k']? = some v → wr.cell? ⟨b1, o1 + j * 4 + k', none⟩ = some v := hcx
          have HC := Lib.hid hc'
          have HSU := Lib.hid hsu
          have HLEN := Lib.hid (hlen.trans HB.out)
          have HGD := Lib.hid hgood
          clear hcx hc' hc1 hsu hlen hgood
          generalize doK 4 k en (T.take j) (doK 2 k en T (doneM M k)) = N at R HSU HLEN HGD
          go_wp2_with (first | ((with_reducible refine wpList_load_at rfl 105 (.tmp 105) rfl agg105 4 size105 b1 (o1 + j * 4) [.int .i64 t.kind, .int .i64 t.src, .int .i64 t.dst, .int .i64 t.time] rfl HC.out ?_ ?_); exact rfl) | ((with_reducible refine wpList_var_agg rfl rfl 105 (.tmp 13) (.tmp 106) rfl rfl 4 zero105 [.int .i64 t.kind, .int .i64 t.src, .int .i64 t.dst, .int .i64 t.time] rfl ?_ ?_ ?_ ?_); (intro u hu; simp at hu; rcases hu with rfl | rfl | rfl | rfl <;> rfl); exact rfl; exact rfl))
          intro w7 hr7 hs7 hf7
          have R7 := Lib.hid (R.out.fr hf7 (by simp))
          have F7 := Lib.hid (F.out.trans hf7 (by simp))
          have hsz7 := hf7.size
          have t0 : w7.cell? ⟨wr.heap.size, 0, none⟩ = some (.int .i64 t.kind) := hr7.cell 0
          have t1 : w7.cell? ⟨wr.heap.size, 1, none⟩ = some (.int .i64 t.src) := hr7.cell 1
          have t2 : w7.cell? ⟨wr.heap.size, 2, none⟩ = some (.int .i64 t.dst) := hr7.cell 2
          have t3 : w7.cell? ⟨wr.heap.size, 3, none⟩ = some (.int .i64 t.time) := hr7.cell 3
          have p0 := cell_fr z0 hf7
          have p1 := cell_fr z1 hf7
          clear hr7 hs7 hf7 z0 z1
          by_cases hkd : t.kind = 4
          case neg =>
            have ek : (t.kind == 4) = false := beq_eq_false_iff_ne.2 hkd
            have HST := Lib.hid (HSU.out.trans (stepK_no (fun h => hkd h.1)))
            clear hkd
            go_wp2_with fail
            go_roundg (tn - (j + 1))
            case measure => omega
            case rel => exact ⟨j + 1, rfl, by omega, rfl, by rw [HST.out]; exact R7.out, F7.out⟩
          have ek : (t.kind == 4) = true := beq_iff_eq.2 hkd
          by_cases hsr : t.src = k
          case neg =>
            have es : (t.src == (k : Int)) = false := beq_eq_false_iff_ne.2 hsr
            have HST := Lib.hid (HSU.out.trans (stepK_no (fun h => hsr h.2.1)))
            clear hkd hsr
            go_wp2_with fail
            go_roundg (tn - (j + 1))
            case measure => omega
            case rel => exact ⟨j + 1, rfl, by omega, rfl, by rw [HST.out]; exact R7.out, F7.out⟩
          have es : (t.src == (k : Int)) = true := beq_iff_eq.2 hsr
          have C8 := rtwo_any ⟨ea, en, ec, some ⟨b1, o1, none⟩, tn, tc, E, T⟩ t w7
          simp only [FlatD.val, TieD.val] at C8
          have HKD := Lib.hid hkd
          have HSR := Lib.hid hsr
          clear hkd hsr
          go_wp2_with fail
          refine C8.mono ?_
          rintro e w8 ⟨rfl, hF8⟩
          have R8 := Lib.hid (R7.out.fr hF8 (by simp))
          have F8 := Lib.hid (F7.out.trans hF8 (by simp))
          have s2 := cell_fr t2 hF8
          have s3 := cell_fr t3 hF8
          clear hF8 C8 t0 t1 t2 t3 p0 p1
          cases hb : t.between en
          · have HST := Lib.hid (HSU.out.trans (stepK_no (fun h => by rw [hb] at h; simp at h)))
            clear hb
            go_wp2_with fail
            go_roundg (tn - (j + 1))
            case measure => omega
            case rel => exact ⟨j + 1, rfl, by omega, rfl, by rw [HST.out]; exact R8.out, F8.out⟩
          have hbb : 0 ≤ t.src ∧ t.src < en ∧ 0 ≤ t.dst ∧ t.dst < en := by simpa [TieD.between] using hb
          obtain ⟨dn, hdn⟩ := Int.eq_ofNat_of_zero_le hbb.2.2.1
          have hdl : dn < n := by have := HEN.out; omega
          have hNl : dn < N.length := by rw [HLEN.out]; exact hdl
          have HST := Lib.hid (HSU.out.trans (stepK_yes ⟨HKD.out, HSR.out, hb⟩ hdn))
          have hgx := (bad_iff _).1 (getD_good N dn HGD.out)
          rw [hdn] at s2
          clear hb hbb hdn
          have v0 : w8.cell? ⟨g, dn * 3, none⟩ = some (.bool (N.getD dn default).inn) := rowC_at R8.out hNl rfl 0 (by omega)
          have v2 : w8.cell? ⟨g, dn * 3 + 2, none⟩ = some (.int .i64 (N.getD dn default).due) := rowC_at R8.out hNl rfl 2 (by omega)
          have v0f : w8.frozen? ⟨g, dn * 3, none⟩ = false := R8.out.frozen _
          have v2f : w8.frozen? ⟨g, dn * 3 + 2, none⟩ = false := R8.out.frozen _
          have HXX := Lib.hid (rfl : N.getD dn default = N.getD dn default)
          have HNL := Lib.hid hNl
          generalize hxx : N.getD dn default = x at v0 v2 HST hgx
          have HX := Lib.hid hxx
          clear hxx HXX hNl
          clear hgx
          go_wp2_with fail
          go_roundg (tn - (j + 1))
          case measure => omega
          case rel => exact ⟨j + 1, rfl, by omega, rfl, by rw [HST.out]; exact rowCI R8.out HNL.out HX.out _ rfl, F8.out.setCell (by simp) _⟩
        · have hd : decide (j < tn) = false := decide_eq_false hjn
          obtain rfl : tn = j := by omega
          have hfull : T.take tn = T := List.take_of_length_le (by have h : T.length = tn := HF.out.ties.1; omega)
          have hR := R.out
          rw [hfull] at hR
          have RD := Lib.hid hR
          have FD := Lib.hid F.out
          have HB := Lib.hid ((doK_length 4 k en T (doK 2 k en T (doneM M k))).trans HB.out)
          have HGO := Lib.hid (doK_good 4 k en T (doK 2 k en T (doneM M k)) HGO.out)
          clear hfull hR
          go_wp2_with fail
          clear z0 z1
          go_loopg [14] tn (fun k' i wr => ∃ (j : Nat), k' = tn - j ∧ j ≤ tn ∧ i = .int .i64 j ∧ Row wr g (mcells (doK 3 k en (T.take j) (doK 4 k en T (doK 2 k en T (doneM M k)))) ++ C) 52 ∧ Fr [g] w6 wr)
          case atStart => exact ⟨0, rfl, by omega, rfl, RD.out, FD.out⟩
          case round =>
            obtain ⟨j, rfl, hj, rfl, hR, hF⟩ := hrel
            have R := Lib.hid hR
            have F := Lib.hid hF
            have z0 : wr.cell? ⟨w.heap.size, 0, none⟩ = some (.slice ea en ec) := cell_frS e0 hF HEX.out
            have z1 : wr.cell? ⟨w.heap.size, 1, none⟩ = some (.slice ta tn tc) := cell_frS e1 hF HEX.out
            clear hR hF
            by_cases hjn : j < tn
            · have hd : decide (j < tn) = true := decide_eq_true hjn
              have FW := Lib.hid (F6.out.trans F.out (by intro y hy; simp at hy; have h1 := F4.out.size; have h2 := HG.out; exact .inr (by omega)))
              obtain ⟨b1, o1, rfl, hb1, hc1⟩ := (HF.out.fr FW.out).ties.2.at_ (by show 0 < tn; omega)
              have hcx := hc1 j hjn
              have hlen := doK_length 3 k en (T.take j) (doK 4 k en T (doK 2 k en T (doneM M k)))
              have hsu := doK_succ 3 k en T j (by have h : T.length = tn := HF.out.ties.1; omega) (doK 4 k en T (doK 2 k en T (doneM M k)))
              have hgood := doK_good 3 k en (T.take j) (doK 4 k en T (doK 2 k en T (doneM M k))) HGO.out
              generalize T.getD j default = t at hcx hsu
              have hc' : ∀ k' v, ([.int .i64 t.kind, .int .i64 t.src, .int .i64 t.dst, .int .i64 t.time] : List Value)[k']? = some v → wr.cell? ⟨b1, o1 + j * 4 + k', none⟩ = some v := hcx
              have HC := Lib.hid hc'
              have HSU := Lib.hid hsu
              have HLEN := Lib.hid (hlen.trans HB.out)
              have HGD := Lib.hid hgood
              clear hcx hc' hc1 hsu hlen hgood
              generalize doK 3 k en (T.take j) (doK 4 k en T (doK 2 k en T (doneM M k))) = N at R HSU HLEN HGD
              go_wp2_with (first | ((with_reducible refine wpList_load_at rfl 105 (.tmp 136) rfl agg105 4 size105 b1 (o1 + j * 4) [.int .i64 t.kind, .int .i64 t.src, .int .i64 t.dst, .int .i64 t.time] rfl HC.out ?_ ?_); exact rfl) | ((with_reducible refine wpList_var_agg rfl rfl 105 (.tmp 15) (.tmp 137) rfl rfl 4 zero105 [.int .i64 t.kind, .int .i64 t.src, .int .i64 t.dst, .int .i64 t.time] rfl ?_ ?_ ?_ ?_); (intro u hu; simp at hu; rcases hu with rfl | rfl | rfl | rfl <;> rfl); exact rfl; exact rfl))
              intro w7 hr7 hs7 hf7
              have R7 := Lib.hid (R.out.fr hf7 (by simp))
              have F7 := Lib.hid (F.out.trans hf7 (by simp))
              have hsz7 := hf7.size
              have t0 : w7.cell? ⟨wr.heap.size, 0, none⟩ = some (.int .i64 t.kind) := hr7.cell 0
              have t1 : w7.cell? ⟨wr.heap.size, 1, none⟩ = some (.int .i64 t.src) := hr7.cell 1
              have t2 : w7.cell? ⟨wr.heap.size, 2, none⟩ = some (.int .i64 t.dst) := hr7.cell 2
              have t3 : w7.cell? ⟨wr.heap.size, 3, none⟩ = some (.int .i64 t.time) := hr7.cell 3
              have p0 := cell_fr z0 hf7
              have p1 := cell_fr z1 hf7
              clear hr7 hs7 hf7 z0 z1
              by_cases hkd : t.kind = 3
              case neg =>
                have ek : (t.kind == 3) = false := beq_eq_false_iff_ne.2 hkd
                have HST := Lib.hid (HSU.out.trans (stepK_no (fun h => hkd h.1)))
                clear hkd
                go_wp2_with fail
                go_roundg (tn - (j + 1))
                case measure => omega
                case rel => exact ⟨j + 1, rfl, by omega, rfl, by rw [HST.out]; exact R7.out, F7.out⟩
              have ek : (t.kind == 3) = true := beq_iff_eq.2 hkd
              by_cases hsr : t.src = k
              case neg =>
                have es : (t.src == (k : Int)) = false := beq_eq_false_iff_ne.2 hsr
                have HST := Lib.hid (HSU.out.trans (stepK_no (fun h => hsr h.2.1)))
                clear hkd hsr
                go_wp2_with fail
                go_roundg (tn - (j + 1))
                case measure => omega
                case rel => exact ⟨j + 1, rfl, by omega, rfl, by rw [HST.out]; exact R7.out, F7.out⟩
              have es : (t.src == (k : Int)) = true := beq_iff_eq.2 hsr
              have C8 := rtwo_any ⟨ea, en, ec, some ⟨b1, o1, none⟩, tn, tc, E, T⟩ t w7
              simp only [FlatD.val, TieD.val] at C8
              have HKD := Lib.hid hkd
              have HSR := Lib.hid hsr
              clear hkd hsr
              go_wp2_with fail
              refine C8.mono ?_
              rintro e w8 ⟨rfl, hF8⟩
              have R8 := Lib.hid (R7.out.fr hF8 (by simp))
              have F8 := Lib.hid (F7.out.trans hF8 (by simp))
              have s2 := cell_fr t2 hF8
              have s3 := cell_fr t3 hF8
              clear hF8 C8 t0 t1 t2 t3 p0 p1
              cases hb : t.between en
              · have HST := Lib.hid (HSU.out.trans (stepK_no (fun h => by rw [hb] at h; simp at h)))
                clear hb
                go_wp2_with fail
                go_roundg (tn - (j + 1))
                case measure => omega
                case rel => exact ⟨j + 1, rfl, by omega, rfl, by rw [HST.out]; exact R8.out, F8.out⟩
              have hbb : 0 ≤ t.src ∧ t.src < en ∧ 0 ≤ t.dst ∧ t.dst < en := by simpa [TieD.between] using hb
              obtain ⟨dn, hdn⟩ := Int.eq_ofNat_of_zero_le hbb.2.2.1
              have hdl : dn < n := by have := HEN.out; omega
              have hNl : dn < N.length := by rw [HLEN.out]; exact hdl
              have HST := Lib.hid (HSU.out.trans (stepK_yes ⟨HKD.out, HSR.out, hb⟩ hdn))
              have hgx := (bad_iff _).1 (getD_good N dn HGD.out)
              rw [hdn] at s2
              clear hb hbb hdn
              have v0 : w8.cell? ⟨g, dn * 3, none⟩ = some (.bool (N.getD dn default).inn) := rowC_at R8.out hNl rfl 0 (by omega)
              have v2 : w8.cell? ⟨g, dn * 3 + 2, none⟩ = some (.int .i64 (N.getD dn default).due) := rowC_at R8.out hNl rfl 2 (by omega)
              have v0f : w8.frozen? ⟨g, dn * 3, none⟩ = false := R8.out.frozen _
              have v2f : w8.frozen? ⟨g, dn * 3 + 2, none⟩ = false := R8.out.frozen _
              have HXX := Lib.hid (rfl : N.getD dn default = N.getD dn default)
              have HNL := Lib.hid hNl
              generalize hxx : N.getD dn default = x at v0 v2 HST hgx
              have HX := Lib.hid hxx
              clear hxx HXX hNl
              clear hgx
              go_wp2_with fail
              go_roundg (tn - (j + 1))
              case measure => omega
              case rel => exact ⟨j + 1, rfl, by omega, rfl, by rw [HST.out]; exact rowCI R8.out HNL.out HX.out _ rfl, F8.out.setCell (by simp) _⟩
            · have hd : decide (j < tn) = false := decide_eq_false hjn
              obtain rfl : tn = j := by omega
              have hfull : T.take tn = T := List.take_of_length_le (by have h : T.length = tn := HF.out.ties.1; omega)
              have hR := R.out
              rw [hfull] at hR
              have RD := Lib.hid hR
              have FD := Lib.hid F.out
              have HB := Lib.hid ((doK_length 3 k en T (doK 4 k en T (doK 2 k en T (doneM M k)))).trans HB.out)
              have HGO := Lib.hid (doK_good 3 k en T (doK 4 k en T (doK 2 k en T (doneM M k))) HGO.out)
              clear hfull hR
              go_wp2_with fail
              clear z0 z1
              go_ret2
              have FW := F6.out.trans FD.out (by intro y hy; simp at hy; have h1 := F4.out.size; have h2 := HG.out; exact .inr (by omega))
              rw [HS.out]
              refine ⟨some ⟨g, 0, none⟩, cap, ?_, ?_, FW, fun g' o' he => by cases he; have h1 := F4.out.size; have h2 := HG.out; omega⟩
              · rw [if_pos rfl, doM_length, HL.out]
                rfl
              · rw [if_pos rfl, if_pos rfl, doM_length, HL.out, Int.toNat_natCast]
                exact marks_of_row RD.out n HB.out
end Go.Proofs.Ytclkahggfdnpgaa
