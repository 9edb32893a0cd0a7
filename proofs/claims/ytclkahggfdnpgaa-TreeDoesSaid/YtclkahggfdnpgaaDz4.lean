/- Parts of the proof: MkS. (Merged by pack.py.) -/
import Derived.Test.YtclkahggfdnpgaaDz3
set_option linter.unusedVariables false
set_option linter.unusedSimpArgs false
namespace Go.Proofs.Ytclkahggfdnpgaa
open Go.RowKit
def MarkedF (M : List MarkD) (n : Nat) (w : World) (e : Ending) (w' : World) : Prop := ∃ a c, e = .returned (.slice a n c) ∧ MarksAt w' a n M ∧ Fr [] w w' ∧ ∀ g o, a = some ⟨g, o, none⟩ → w.heap.size ≤ g
/-- A marking in a block of its own, or why there is none. -/
def NextF (N : List MarkD) (E : Int) (w : World) (e : Ending) (w' : World) : Prop :=
  ∃ a c, e = .returned (.tuple #[.slice a (if E = 0 then N.length else 0) c, .int .i64 E]) ∧ MarksAt w' a (if E = 0 then N.length else 0) (if E = 0 then N else []) ∧ Fr [] w w' ∧ ∀ g o, a = some ⟨g, o, none⟩ → w.heap.size ≤ g
theorem nextF_err {N : List MarkD} {E : Int} {w : World} (hE : E ≠ 0) {e : Ending} {w' : World} (he : e = .returned (.tuple #[.slice none 0 0, .int .i64 E])) (hF : Fr [] w w') : NextF N E w e w' :=
  ⟨none, 0, by rw [if_neg hE]; exact he, by rw [if_neg hE, if_neg hE]; exact marks_nil w', hF, fun g o h => by cases h⟩
theorem nextF_ok {N : List MarkD} {n : Nat} {w : World} {e : Ending} {w' : World} (hN : N.length = n) (h : NewM N n w e w') : NextF N 0 w e w' := by
  obtain ⟨g, he, hg, hR, hF⟩ := h
  refine ⟨some ⟨g, 0, none⟩, n, by rw [if_pos rfl, hN]; exact he, ?_, hF, fun g' o h => by cases h; exact hg⟩
  rw [if_pos rfl, if_pos rfl, hN]
  exact marks_of_row (C := []) (by simpa using hR) n hN
set_option maxRecDepth 100000 in
set_option maxHeartbeats 1000000 in
theorem start_fresh (f : FlatD) (w : World) (hf : FlatAt w f) : Calls Try.prog 27 #[f.val] w (MarkedF (f.E.map startM) f.en w) := by
  obtain ⟨i0, hi, hz0, hz1, hz2⟩ := info_parts infoM
  have HI := Lib.hid hi
  have HZ0 := Lib.hid hz0
  have HZ1 := Lib.hid hz1
  have HZ2 := Lib.hid hz2
  clear hi hz0 hz1 hz2
  have hr := (Fr.refl [] w).alloc (.cells #[.slice f.ea f.en f.ec, .slice f.ta f.tn f.tc] 25)
  have HR := Lib.hid hr
  have HE := Lib.hid hf.evs
  have HLE := Lib.hid hf.evs.1
  have hfew := hf.few
  have HW := Lib.hid (World.ownsRow_nil (w.alloc (.cells #[.slice f.ea f.en f.ec, .slice f.ta f.tn f.tc] 25)) w.heap.size 52 3)
  clear hf hr
  obtain ⟨ea, en, ec, ta, tn, tc, E, T⟩ := f
  simp only at HR HE HLE hfew HW ⊢
  unfold FlatD.val
  simp only
  go_enter Try.func27, Try.ntmps27
  go_wp2_with fail
  go_loopg [3, 10] en (fun k v i wr => ∃ (j : Nat), k = en - j ∧ j ≤ en ∧ i = .int .i64 j ∧ wr.ownsRow w.heap.size 52 3 v j (mcells ((E.take j).map startM)) ∧ Fr [] w wr)
  case atStart => exact ⟨0, rfl, by omega, rfl, HW.out, HR.out⟩
  case round =>
    obtain ⟨j, rfl, hj, rfl, hO, hF⟩ := hrel
    obtain ⟨a, c, rfl⟩ := own_slice hO
    have O := Lib.hid hO
    have F := Lib.hid hF
    have hwsz : w.heap.size ≤ wr.heap.size := hF.size
    clear hO hF
    by_cases hjn : j < en
    · have hd : decide (j < en) = true := by rw [decide_eq_true_iff]; omega
      obtain ⟨b1, o1, rfl, hb1, hc1⟩ := (HE.out.fr F.out).2.at_ (by omega)
      have hcx := hc1 j hjn
      have ht := take_succD E j (by rw [HLE.out]; exact hjn)
      generalize E.getD j default = x at hcx ht
      have hc' : ∀ k v, ([.string x.name, .string x.group, .string x.role, .bool x.inn, .bool x.done, .int .i64 x.due] : List Value)[k]? = some v → wr.cell? ⟨b1, o1 + j * 6 + k, none⟩ = some v := hcx
      have HC := Lib.hid hc'
      have HT := Lib.hid ht
      clear hcx hc' hc1 ht
      go_wp2_with (first | ((with_reducible refine wpList_load_at rfl 104 (.tmp 12) rfl agg104 6 size104 b1 (o1 + j * 6) [.string x.name, .string x.group, .string x.role, .bool x.inn, .bool x.done, .int .i64 x.due] rfl HC.out ?_ ?_); exact rfl) | ((with_reducible refine wpList_var_agg rfl rfl 104 (.tmp 5) (.tmp 13) rfl rfl 6 zero104 [.string x.name, .string x.group, .string x.role, .bool x.inn, .bool x.done, .int .i64 x.due] rfl ?_ ?_ ?_ ?_); (intro u hu; simp at hu; rcases hu with rfl | rfl | rfl | rfl | rfl | rfl <;> rfl); exact rfl; exact rfl))
      intro w3 hr3 hs3 hf3
      have F3 := Lib.hid (F.out.trans hf3 (by simp))
      have O3 := Lib.hid (own_fr O.out hf3)
      have q3 : w3.cell? ⟨wr.heap.size, 3, none⟩ = some (.bool x.inn) := hr3.cell 3
      have q4 : w3.cell? ⟨wr.heap.size, 4, none⟩ = some (.bool x.done) := hr3.cell 4
      have q5 : w3.cell? ⟨wr.heap.size, 5, none⟩ = some (.int .i64 x.due) := hr3.cell 5
      have hws3 : w.heap.size ≤ w3.heap.size := by omega
      have hlt3 : wr.heap.size < w3.heap.size := by omega
      have n4 : (⟨wr.heap.size, 4, none⟩ : Addr).block ≠ w3.heap.size := by show wr.heap.size ≠ w3.heap.size; omega
      have HT' := Lib.hid (by rw [HT.out, List.map_append, List.map_cons, List.map_nil, mcells_snoc] : mcells ((E.take (j + 1)).map startM) = mcells ((E.take j).map startM) ++ (startM x).cells)
      have q4' : ∀ o, (w3.alloc o).cell? ⟨wr.heap.size, 4, none⟩ = some (.bool x.done) := fun o => by rw [World.cell?_alloc_lt w3 o _ (by simpa using hlt3)]; exact q4
      clear hr3 hs3 hf3
      -- LEAVES-BEGIN
      by_cases hu0 : x.due < -1
      · skip
        have cl : clampU x.due = (-1) := by unfold clampU; split <;> (try split) <;> omega
        have CL := Lib.hid cl
        clear cl
        cases hdn : x.done
        · have HD := Lib.hid hdn
          rw [hdn] at q4 q4'
          clear hdn
          have hsz0 : (w3.alloc (.cells #[.bool x.inn, .int .i64 (-1), .int .i64 (-1)] 52)).heap.size = w3.heap.size + 1 := by simp
          have hfr1 : Fr [] w3 ((w3.alloc (.cells #[.bool x.inn, .int .i64 (-1), .int .i64 (-1)] 52)).alloc (.cells #[.bool x.inn, .int .i64 (-1), .int .i64 (-1)] 52)) := ((Fr.refl [] w3).alloc _).alloc _
          have hO4 : ((w3.alloc (.cells #[.bool x.inn, .int .i64 (-1), .int .i64 (-1)] 52)).alloc (.cells #[.bool x.inn, .int .i64 (-1), .int .i64 (-1)] 52)).ownsRow w.heap.size 52 3 (.slice a j c) j (mcells ((E.take j).map startM)) := own_fr O3.out hfr1
          have hnew : ∀ i u, ([.bool x.inn, .int .i64 (-1), .int .i64 (-1)] : List Value)[i]? = some u → ((w3.alloc (.cells #[.bool x.inn, .int .i64 (-1), .int .i64 (-1)] 52)).alloc (.cells #[.bool x.inn, .int .i64 (-1), .int .i64 (-1)] 52)).cell? ((⟨w3.heap.size + 1, 0, none⟩ : Addr).add i) = some u := by
            intro i u hi
            rw [Addr_add, Nat.zero_add]
            have hrn := Row.new (w3.alloc (.cells #[.bool x.inn, .int .i64 (-1), .int .i64 (-1)] 52)) [.bool x.inn, .int .i64 (-1), .int .i64 (-1)] 52
            rw [hsz0] at hrn
            exact (hrn.cell i).trans hi
          have hst : (startM x).cells = [.bool x.inn, .int .i64 (-1), .int .i64 (-1)] := by unfold startM MarkD.cells; rw [HD.out, CL.out]; rfl
          have O4 := Lib.hid hO4
          have NW := Lib.hid hnew
          have ST := Lib.hid hst
          have F4 := Lib.hid (F3.out.trans hfr1 (by simp))
          clear hO4 hnew hst hfr1 hsz0
          go_wp2_with (at_builtin; refine wpList_append_own _ rfl _ _ 26 rfl w.heap.size 52 i0 (.agg #[.bool false, .int .i64 0, .int .i64 0]) 3 24 Try.underlying26 HI.out HZ0.out HZ1.out HZ2.out rfl (by decide) _ _ _ rfl O4.out ⟨w3.heap.size + 1, 0, none⟩ 1 1 [.bool x.inn, .int .i64 (-1), .int .i64 (-1)] rfl rfl NW.out (by simp [Value.oneCell']) ?c3 ?c4 ?c5 ?_)
          case c3 => unfold maxLen; omega
          case c4 => omega
          case c5 => first | omega | (simp; omega)
          intro v' w5 hown' hgrow _
          have hown2 : w5.ownsRow w.heap.size 52 3 v' (j + 1) (mcells ((E.take (j + 1)).map startM)) := by
            rw [HT'.out, ST.out]
            first | exact hown' | (rw [List.map_take]; exact hown')
          have hF5 : Fr [] w w5 := by
            refine F4.out.trans (Fr.of_grown hgrow ((Value.ownBlock (.slice a j c)).toList) (fun k hk => .inl (by simp [hk]))) ?_
            intro k hk
            simp only [Option.mem_toList] at hk
            exact .inr (O4.out.lt k hk).1
          have O5 := Lib.hid hown2
          have F5 := Lib.hid hF5
          clear hown' hgrow hown2 hF5
          go_wp2_with fail
          go_roundg (en - (j + 1))
          case measure => omega
          case rel => exact ⟨j + 1, rfl, by omega, rfl, O5.out, F5.out⟩
        · have HD := Lib.hid hdn
          rw [hdn] at q4 q4'
          clear hdn
          have hsz0 : (w3.alloc (.cells #[.bool x.inn, .int .i64 0, .int .i64 (-1)] 52)).heap.size = w3.heap.size + 1 := by simp
          have hfr1 : Fr [] w3 ((w3.alloc (.cells #[.bool x.inn, .int .i64 0, .int .i64 (-1)] 52)).alloc (.cells #[.bool x.inn, .int .i64 0, .int .i64 (-1)] 52)) := ((Fr.refl [] w3).alloc _).alloc _
          have hO4 : ((w3.alloc (.cells #[.bool x.inn, .int .i64 0, .int .i64 (-1)] 52)).alloc (.cells #[.bool x.inn, .int .i64 0, .int .i64 (-1)] 52)).ownsRow w.heap.size 52 3 (.slice a j c) j (mcells ((E.take j).map startM)) := own_fr O3.out hfr1
          have hnew : ∀ i u, ([.bool x.inn, .int .i64 0, .int .i64 (-1)] : List Value)[i]? = some u → ((w3.alloc (.cells #[.bool x.inn, .int .i64 0, .int .i64 (-1)] 52)).alloc (.cells #[.bool x.inn, .int .i64 0, .int .i64 (-1)] 52)).cell? ((⟨w3.heap.size + 1, 0, none⟩ : Addr).add i) = some u := by
            intro i u hi
            rw [Addr_add, Nat.zero_add]
            have hrn := Row.new (w3.alloc (.cells #[.bool x.inn, .int .i64 0, .int .i64 (-1)] 52)) [.bool x.inn, .int .i64 0, .int .i64 (-1)] 52
            rw [hsz0] at hrn
            exact (hrn.cell i).trans hi
          have hst : (startM x).cells = [.bool x.inn, .int .i64 0, .int .i64 (-1)] := by unfold startM MarkD.cells; rw [HD.out, CL.out]; rfl
          have O4 := Lib.hid hO4
          have NW := Lib.hid hnew
          have ST := Lib.hid hst
          have F4 := Lib.hid (F3.out.trans hfr1 (by simp))
          clear hO4 hnew hst hfr1 hsz0
          go_wp2_with (at_builtin; refine wpList_append_own _ rfl _ _ 26 rfl w.heap.size 52 i0 (.agg #[.bool false, .int .i64 0, .int .i64 0]) 3 24 Try.underlying26 HI.out HZ0.out HZ1.out HZ2.out rfl (by decide) _ _ _ rfl O4.out ⟨w3.heap.size + 1, 0, none⟩ 1 1 [.bool x.inn, .int .i64 0, .int .i64 (-1)] rfl rfl NW.out (by simp [Value.oneCell']) ?c3 ?c4 ?c5 ?_)
          case c3 => unfold maxLen; omega
          case c4 => omega
          case c5 => first | omega | (simp; omega)
          intro v' w5 hown' hgrow _
          have hown2 : w5.ownsRow w.heap.size 52 3 v' (j + 1) (mcells ((E.take (j + 1)).map startM)) := by
            rw [HT'.out, ST.out]
            first | exact hown' | (rw [List.map_take]; exact hown')
          have hF5 : Fr [] w w5 := by
            refine F4.out.trans (Fr.of_grown hgrow ((Value.ownBlock (.slice a j c)).toList) (fun k hk => .inl (by simp [hk]))) ?_
            intro k hk
            simp only [Option.mem_toList] at hk
            exact .inr (O4.out.lt k hk).1
          have O5 := Lib.hid hown2
          have F5 := Lib.hid hF5
          clear hown' hgrow hown2 hF5
          go_wp2_with fail
          go_roundg (en - (j + 1))
          case measure => omega
          case rel => exact ⟨j + 1, rfl, by omega, rfl, O5.out, F5.out⟩
      · skip
        by_cases hu1 : x.due = -1
        · skip
          have cl : clampU x.due = (-1) := by unfold clampU; split <;> (try split) <;> omega
          have CL := Lib.hid cl
          clear cl
          rw [hu1] at q5
          cases hdn : x.done
          · have HD := Lib.hid hdn
            rw [hdn] at q4 q4'
            clear hdn
            have hsz0 : (w3.alloc (.cells #[.bool x.inn, .int .i64 (-1), .int .i64 (-1)] 52)).heap.size = w3.heap.size + 1 := by simp
            have hfr1 : Fr [] w3 ((w3.alloc (.cells #[.bool x.inn, .int .i64 (-1), .int .i64 (-1)] 52)).alloc (.cells #[.bool x.inn, .int .i64 (-1), .int .i64 (-1)] 52)) := ((Fr.refl [] w3).alloc _).alloc _
            have hO4 : ((w3.alloc (.cells #[.bool x.inn, .int .i64 (-1), .int .i64 (-1)] 52)).alloc (.cells #[.bool x.inn, .int .i64 (-1), .int .i64 (-1)] 52)).ownsRow w.heap.size 52 3 (.slice a j c) j (mcells ((E.take j).map startM)) := own_fr O3.out hfr1
            have hnew : ∀ i u, ([.bool x.inn, .int .i64 (-1), .int .i64 (-1)] : List Value)[i]? = some u → ((w3.alloc (.cells #[.bool x.inn, .int .i64 (-1), .int .i64 (-1)] 52)).alloc (.cells #[.bool x.inn, .int .i64 (-1), .int .i64 (-1)] 52)).cell? ((⟨w3.heap.size + 1, 0, none⟩ : Addr).add i) = some u := by
              intro i u hi
              rw [Addr_add, Nat.zero_add]
              have hrn := Row.new (w3.alloc (.cells #[.bool x.inn, .int .i64 (-1), .int .i64 (-1)] 52)) [.bool x.inn, .int .i64 (-1), .int .i64 (-1)] 52
              rw [hsz0] at hrn
              exact (hrn.cell i).trans hi
            have hst : (startM x).cells = [.bool x.inn, .int .i64 (-1), .int .i64 (-1)] := by unfold startM MarkD.cells; rw [HD.out, CL.out]; rfl
            have O4 := Lib.hid hO4
            have NW := Lib.hid hnew
            have ST := Lib.hid hst
            have F4 := Lib.hid (F3.out.trans hfr1 (by simp))
            clear hO4 hnew hst hfr1 hsz0
            go_wp2_with (at_builtin; refine wpList_append_own _ rfl _ _ 26 rfl w.heap.size 52 i0 (.agg #[.bool false, .int .i64 0, .int .i64 0]) 3 24 Try.underlying26 HI.out HZ0.out HZ1.out HZ2.out rfl (by decide) _ _ _ rfl O4.out ⟨w3.heap.size + 1, 0, none⟩ 1 1 [.bool x.inn, .int .i64 (-1), .int .i64 (-1)] rfl rfl NW.out (by simp [Value.oneCell']) ?c3 ?c4 ?c5 ?_)
            case c3 => unfold maxLen; omega
            case c4 => omega
            case c5 => first | omega | (simp; omega)
            intro v' w5 hown' hgrow _
            have hown2 : w5.ownsRow w.heap.size 52 3 v' (j + 1) (mcells ((E.take (j + 1)).map startM)) := by
              rw [HT'.out, ST.out]
              first | exact hown' | (rw [List.map_take]; exact hown')
            have hF5 : Fr [] w w5 := by
              refine F4.out.trans (Fr.of_grown hgrow ((Value.ownBlock (.slice a j c)).toList) (fun k hk => .inl (by simp [hk]))) ?_
              intro k hk
              simp only [Option.mem_toList] at hk
              exact .inr (O4.out.lt k hk).1
            have O5 := Lib.hid hown2
            have F5 := Lib.hid hF5
            clear hown' hgrow hown2 hF5
            go_wp2_with fail
            go_roundg (en - (j + 1))
            case measure => omega
            case rel => exact ⟨j + 1, rfl, by omega, rfl, O5.out, F5.out⟩
          · have HD := Lib.hid hdn
            rw [hdn] at q4 q4'
            clear hdn
            have hsz0 : (w3.alloc (.cells #[.bool x.inn, .int .i64 0, .int .i64 (-1)] 52)).heap.size = w3.heap.size + 1 := by simp
            have hfr1 : Fr [] w3 ((w3.alloc (.cells #[.bool x.inn, .int .i64 0, .int .i64 (-1)] 52)).alloc (.cells #[.bool x.inn, .int .i64 0, .int .i64 (-1)] 52)) := ((Fr.refl [] w3).alloc _).alloc _
            have hO4 : ((w3.alloc (.cells #[.bool x.inn, .int .i64 0, .int .i64 (-1)] 52)).alloc (.cells #[.bool x.inn, .int .i64 0, .int .i64 (-1)] 52)).ownsRow w.heap.size 52 3 (.slice a j c) j (mcells ((E.take j).map startM)) := own_fr O3.out hfr1
            have hnew : ∀ i u, ([.bool x.inn, .int .i64 0, .int .i64 (-1)] : List Value)[i]? = some u → ((w3.alloc (.cells #[.bool x.inn, .int .i64 0, .int .i64 (-1)] 52)).alloc (.cells #[.bool x.inn, .int .i64 0, .int .i64 (-1)] 52)).cell? ((⟨w3.heap.size + 1, 0, none⟩ : Addr).add i) = some u := by
              intro i u hi
              rw [Addr_add, Nat.zero_add]
              have hrn := Row.new (w3.alloc (.cells #[.bool x.inn, .int .i64 0, .int .i64 (-1)] 52)) [.bool x.inn, .int .i64 0, .int .i64 (-1)] 52
              rw [hsz0] at hrn
              exact (hrn.cell i).trans hi
            have hst : (startM x).cells = [.bool x.inn, .int .i64 0, .int .i64 (-1)] := by unfold startM MarkD.cells; rw [HD.out, CL.out]; rfl
            have O4 := Lib.hid hO4
            have NW := Lib.hid hnew
            have ST := Lib.hid hst
            have F4 := Lib.hid (F3.out.trans hfr1 (by simp))
            clear hO4 hnew hst hfr1 hsz0
            go_wp2_with (at_builtin; refine wpList_append_own _ rfl _ _ 26 rfl w.heap.size 52 i0 (.agg #[.bool false, .int .i64 0, .int .i64 0]) 3 24 Try.underlying26 HI.out HZ0.out HZ1.out HZ2.out rfl (by decide) _ _ _ rfl O4.out ⟨w3.heap.size + 1, 0, none⟩ 1 1 [.bool x.inn, .int .i64 0, .int .i64 (-1)] rfl rfl NW.out (by simp [Value.oneCell']) ?c3 ?c4 ?c5 ?_)
            case c3 => unfold maxLen; omega
            case c4 => omega
            case c5 => first | omega | (simp; omega)
            intro v' w5 hown' hgrow _
            have hown2 : w5.ownsRow w.heap.size 52 3 v' (j + 1) (mcells ((E.take (j + 1)).map startM)) := by
              rw [HT'.out, ST.out]
              first | exact hown' | (rw [List.map_take]; exact hown')
            have hF5 : Fr [] w w5 := by
              refine F4.out.trans (Fr.of_grown hgrow ((Value.ownBlock (.slice a j c)).toList) (fun k hk => .inl (by simp [hk]))) ?_
              intro k hk
              simp only [Option.mem_toList] at hk
              exact .inr (O4.out.lt k hk).1
            have O5 := Lib.hid hown2
            have F5 := Lib.hid hF5
            clear hown' hgrow hown2 hF5
            go_wp2_with fail
            go_roundg (en - (j + 1))
            case measure => omega
            case rel => exact ⟨j + 1, rfl, by omega, rfl, O5.out, F5.out⟩
        · skip
          by_cases hu2 : x.due < 1048576
          · skip
            have cl : clampU x.due = x.due := by unfold clampU; split <;> (try split) <;> omega
            have CL := Lib.hid cl
            clear cl
            have hgt : -1 < x.due := by omega
            cases hdn : x.done
            · have HD := Lib.hid hdn
              rw [hdn] at q4 q4'
              clear hdn
              have hsz0 : (w3.alloc (.cells #[.bool x.inn, .int .i64 (-1), .int .i64 x.due] 52)).heap.size = w3.heap.size + 1 := by simp
              have hfr1 : Fr [] w3 ((w3.alloc (.cells #[.bool x.inn, .int .i64 (-1), .int .i64 x.due] 52)).alloc (.cells #[.bool x.inn, .int .i64 (-1), .int .i64 x.due] 52)) := ((Fr.refl [] w3).alloc _).alloc _
              have hO4 : ((w3.alloc (.cells #[.bool x.inn, .int .i64 (-1), .int .i64 x.due] 52)).alloc (.cells #[.bool x.inn, .int .i64 (-1), .int .i64 x.due] 52)).ownsRow w.heap.size 52 3 (.slice a j c) j (mcells ((E.take j).map startM)) := own_fr O3.out hfr1
              have hnew : ∀ i u, ([.bool x.inn, .int .i64 (-1), .int .i64 x.due] : List Value)[i]? = some u → ((w3.alloc (.cells #[.bool x.inn, .int .i64 (-1), .int .i64 x.due] 52)).alloc (.cells #[.bool x.inn, .int .i64 (-1), .int .i64 x.due] 52)).cell? ((⟨w3.heap.size + 1, 0, none⟩ : Addr).add i) = some u := by
                intro i u hi
                rw [Addr_add, Nat.zero_add]
                have hrn := Row.new (w3.alloc (.cells #[.bool x.inn, .int .i64 (-1), .int .i64 x.due] 52)) [.bool x.inn, .int .i64 (-1), .int .i64 x.due] 52
                rw [hsz0] at hrn
                exact (hrn.cell i).trans hi
              have hst : (startM x).cells = [.bool x.inn, .int .i64 (-1), .int .i64 x.due] := by unfold startM MarkD.cells; rw [HD.out, CL.out]; rfl
              have O4 := Lib.hid hO4
              have NW := Lib.hid hnew
              have ST := Lib.hid hst
              have F4 := Lib.hid (F3.out.trans hfr1 (by simp))
              clear hO4 hnew hst hfr1 hsz0
              go_wp2_with (at_builtin; refine wpList_append_own _ rfl _ _ 26 rfl w.heap.size 52 i0 (.agg #[.bool false, .int .i64 0, .int .i64 0]) 3 24 Try.underlying26 HI.out HZ0.out HZ1.out HZ2.out rfl (by decide) _ _ _ rfl O4.out ⟨w3.heap.size + 1, 0, none⟩ 1 1 [.bool x.inn, .int .i64 (-1), .int .i64 x.due] rfl rfl NW.out (by simp [Value.oneCell']) ?c3 ?c4 ?c5 ?_)
              case c3 => unfold maxLen; omega
              case c4 => omega
              case c5 => first | omega | (simp; omega)
              intro v' w5 hown' hgrow _
              have hown2 : w5.ownsRow w.heap.size 52 3 v' (j + 1) (mcells ((E.take (j + 1)).map startM)) := by
                rw [HT'.out, ST.out]
                first | exact hown' | (rw [List.map_take]; exact hown')
              have hF5 : Fr [] w w5 := by
                refine F4.out.trans (Fr.of_grown hgrow ((Value.ownBlock (.slice a j c)).toList) (fun k hk => .inl (by simp [hk]))) ?_
                intro k hk
                simp only [Option.mem_toList] at hk
                exact .inr (O4.out.lt k hk).1
              have O5 := Lib.hid hown2
              have F5 := Lib.hid hF5
              clear hown' hgrow hown2 hF5
              go_wp2_with fail
              go_roundg (en - (j + 1))
              case measure => omega
              case rel => exact ⟨j + 1, rfl, by omega, rfl, O5.out, F5.out⟩
            · have HD := Lib.hid hdn
              rw [hdn] at q4 q4'
              clear hdn
              have hsz0 : (w3.alloc (.cells #[.bool x.inn, .int .i64 0, .int .i64 x.due] 52)).heap.size = w3.heap.size + 1 := by simp
              have hfr1 : Fr [] w3 ((w3.alloc (.cells #[.bool x.inn, .int .i64 0, .int .i64 x.due] 52)).alloc (.cells #[.bool x.inn, .int .i64 0, .int .i64 x.due] 52)) := ((Fr.refl [] w3).alloc _).alloc _
              have hO4 : ((w3.alloc (.cells #[.bool x.inn, .int .i64 0, .int .i64 x.due] 52)).alloc (.cells #[.bool x.inn, .int .i64 0, .int .i64 x.due] 52)).ownsRow w.heap.size 52 3 (.slice a j c) j (mcells ((E.take j).map startM)) := own_fr O3.out hfr1
              have hnew : ∀ i u, ([.bool x.inn, .int .i64 0, .int .i64 x.due] : List Value)[i]? = some u → ((w3.alloc (.cells #[.bool x.inn, .int .i64 0, .int .i64 x.due] 52)).alloc (.cells #[.bool x.inn, .int .i64 0, .int .i64 x.due] 52)).cell? ((⟨w3.heap.size + 1, 0, none⟩ : Addr).add i) = some u := by
                intro i u hi
                rw [Addr_add, Nat.zero_add]
                have hrn := Row.new (w3.alloc (.cells #[.bool x.inn, .int .i64 0, .int .i64 x.due] 52)) [.bool x.inn, .int .i64 0, .int .i64 x.due] 52
                rw [hsz0] at hrn
                exact (hrn.cell i).trans hi
              have hst : (startM x).cells = [.bool x.inn, .int .i64 0, .int .i64 x.due] := by unfold startM MarkD.cells; rw [HD.out, CL.out]; rfl
              have O4 := Lib.hid hO4
              have NW := Lib.hid hnew
              have ST := Lib.hid hst
              have F4 := Lib.hid (F3.out.trans hfr1 (by simp))
              clear hO4 hnew hst hfr1 hsz0
              go_wp2_with (at_builtin; refine wpList_append_own _ rfl _ _ 26 rfl w.heap.size 52 i0 (.agg #[.bool false, .int .i64 0, .int .i64 0]) 3 24 Try.underlying26 HI.out HZ0.out HZ1.out HZ2.out rfl (by decide) _ _ _ rfl O4.out ⟨w3.heap.size + 1, 0, none⟩ 1 1 [.bool x.inn, .int .i64 0, .int .i64 x.due] rfl rfl NW.out (by simp [Value.oneCell']) ?c3 ?c4 ?c5 ?_)
              case c3 => unfold maxLen; omega
              case c4 => omega
              case c5 => first | omega | (simp; omega)
              intro v' w5 hown' hgrow _
              have hown2 : w5.ownsRow w.heap.size 52 3 v' (j + 1) (mcells ((E.take (j + 1)).map startM)) := by
                rw [HT'.out, ST.out]
                first | exact hown' | (rw [List.map_take]; exact hown')
              have hF5 : Fr [] w w5 := by
                refine F4.out.trans (Fr.of_grown hgrow ((Value.ownBlock (.slice a j c)).toList) (fun k hk => .inl (by simp [hk]))) ?_
                intro k hk
                simp only [Option.mem_toList] at hk
                exact .inr (O4.out.lt k hk).1
              have O5 := Lib.hid hown2
              have F5 := Lib.hid hF5
              clear hown' hgrow hown2 hF5
              go_wp2_with fail
              go_roundg (en - (j + 1))
              case measure => omega
              case rel => exact ⟨j + 1, rfl, by omega, rfl, O5.out, F5.out⟩
          · skip
            by_cases hu3 : x.due = 1048576
            · skip
              have cl : clampU x.due = 1048576 := by unfold clampU; split <;> (try split) <;> omega
              have CL := Lib.hid cl
              clear cl
              rw [hu3] at q5
              cases hdn : x.done
              · have HD := Lib.hid hdn
                rw [hdn] at q4 q4'
                clear hdn
                have hsz0 : (w3.alloc (.cells #[.bool x.inn, .int .i64 (-1), .int .i64 1048576] 52)).heap.size = w3.heap.size + 1 := by simp
                have hfr1 : Fr [] w3 ((w3.alloc (.cells #[.bool x.inn, .int .i64 (-1), .int .i64 1048576] 52)).alloc (.cells #[.bool x.inn, .int .i64 (-1), .int .i64 1048576] 52)) := ((Fr.refl [] w3).alloc _).alloc _
                have hO4 : ((w3.alloc (.cells #[.bool x.inn, .int .i64 (-1), .int .i64 1048576] 52)).alloc (.cells #[.bool x.inn, .int .i64 (-1), .int .i64 1048576] 52)).ownsRow w.heap.size 52 3 (.slice a j c) j (mcells ((E.take j).map startM)) := own_fr O3.out hfr1
                have hnew : ∀ i u, ([.bool x.inn, .int .i64 (-1), .int .i64 1048576] : List Value)[i]? = some u → ((w3.alloc (.cells #[.bool x.inn, .int .i64 (-1), .int .i64 1048576] 52)).alloc (.cells #[.bool x.inn, .int .i64 (-1), .int .i64 1048576] 52)).cell? ((⟨w3.heap.size + 1, 0, none⟩ : Addr).add i) = some u := by
                  intro i u hi
                  rw [Addr_add, Nat.zero_add]
                  have hrn := Row.new (w3.alloc (.cells #[.bool x.inn, .int .i64 (-1), .int .i64 1048576] 52)) [.bool x.inn, .int .i64 (-1), .int .i64 1048576] 52
                  rw [hsz0] at hrn
                  exact (hrn.cell i).trans hi
                have hst : (startM x).cells = [.bool x.inn, .int .i64 (-1), .int .i64 1048576] := by unfold startM MarkD.cells; rw [HD.out, CL.out]; rfl
                have O4 := Lib.hid hO4
                have NW := Lib.hid hnew
                have ST := Lib.hid hst
                have F4 := Lib.hid (F3.out.trans hfr1 (by simp))
                clear hO4 hnew hst hfr1 hsz0
                go_wp2_with (at_builtin; refine wpList_append_own _ rfl _ _ 26 rfl w.heap.size 52 i0 (.agg #[.bool false, .int .i64 0, .int .i64 0]) 3 24 Try.underlying26 HI.out HZ0.out HZ1.out HZ2.out rfl (by decide) _ _ _ rfl O4.out ⟨w3.heap.size + 1, 0, none⟩ 1 1 [.bool x.inn, .int .i64 (-1), .int .i64 1048576] rfl rfl NW.out (by simp [Value.oneCell']) ?c3 ?c4 ?c5 ?_)
                case c3 => unfold maxLen; omega
                case c4 => omega
                case c5 => first | omega | (simp; omega)
                intro v' w5 hown' hgrow _
                have hown2 : w5.ownsRow w.heap.size 52 3 v' (j + 1) (mcells ((E.take (j + 1)).map startM)) := by
                  rw [HT'.out, ST.out]
                  first | exact hown' | (rw [List.map_take]; exact hown')
                have hF5 : Fr [] w w5 := by
                  refine F4.out.trans (Fr.of_grown hgrow ((Value.ownBlock (.slice a j c)).toList) (fun k hk => .inl (by simp [hk]))) ?_
                  intro k hk
                  simp only [Option.mem_toList] at hk
                  exact .inr (O4.out.lt k hk).1
                have O5 := Lib.hid hown2
                have F5 := Lib.hid hF5
                clear hown' hgrow hown2 hF5
                go_wp2_with fail
                go_roundg (en - (j + 1))
                case measure => omega
                case rel => exact ⟨j + 1, rfl, by omega, rfl, O5.out, F5.out⟩
              · have HD := Lib.hid hdn
                rw [hdn] at q4 q4'
                clear hdn
                have hsz0 : (w3.alloc (.cells #[.bool x.inn, .int .i64 0, .int .i64 1048576] 52)).heap.size = w3.heap.size + 1 := by simp
                have hfr1 : Fr [] w3 ((w3.alloc (.cells #[.bool x.inn, .int .i64 0, .int .i64 1048576] 52)).alloc (.cells #[.bool x.inn, .int .i64 0, .int .i64 1048576] 52)) := ((Fr.refl [] w3).alloc _).alloc _
                have hO4 : ((w3.alloc (.cells #[.bool x.inn, .int .i64 0, .int .i64 1048576] 52)).alloc (.cells #[.bool x.inn, .int .i64 0, .int .i64 1048576] 52)).ownsRow w.heap.size 52 3 (.slice a j c) j (mcells ((E.take j).map startM)) := own_fr O3.out hfr1
                have hnew : ∀ i u, ([.bool x.inn, .int .i64 0, .int .i64 1048576] : List Value)[i]? = some u → ((w3.alloc (.cells #[.bool x.inn, .int .i64 0, .int .i64 1048576] 52)).alloc (.cells #[.bool x.inn, .int .i64 0, .int .i64 1048576] 52)).cell? ((⟨w3.heap.size + 1, 0, none⟩ : Addr).add i) = some u := by
                  intro i u hi
                  rw [Addr_add, Nat.zero_add]
                  have hrn := Row.new (w3.alloc (.cells #[.bool x.inn, .int .i64 0, .int .i64 1048576] 52)) [.bool x.inn, .int .i64 0, .int .i64 1048576] 52
                  rw [hsz0] at hrn
                  exact (hrn.cell i).trans hi
                have hst : (startM x).cells = [.bool x.inn, .int .i64 0, .int .i64 1048576] := by unfold startM MarkD.cells; rw [HD.out, CL.out]; rfl
                have O4 := Lib.hid hO4
                have NW := Lib.hid hnew
                have ST := Lib.hid hst
                have F4 := Lib.hid (F3.out.trans hfr1 (by simp))
                clear hO4 hnew hst hfr1 hsz0
                go_wp2_with (at_builtin; refine wpList_append_own _ rfl _ _ 26 rfl w.heap.size 52 i0 (.agg #[.bool false, .int .i64 0, .int .i64 0]) 3 24 Try.underlying26 HI.out HZ0.out HZ1.out HZ2.out rfl (by decide) _ _ _ rfl O4.out ⟨w3.heap.size + 1, 0, none⟩ 1 1 [.bool x.inn, .int .i64 0, .int .i64 1048576] rfl rfl NW.out (by simp [Value.oneCell']) ?c3 ?c4 ?c5 ?_)
                case c3 => unfold maxLen; omega
                case c4 => omega
                case c5 => first | omega | (simp; omega)
                intro v' w5 hown' hgrow _
                have hown2 : w5.ownsRow w.heap.size 52 3 v' (j + 1) (mcells ((E.take (j + 1)).map startM)) := by
                  rw [HT'.out, ST.out]
                  first | exact hown' | (rw [List.map_take]; exact hown')
                have hF5 : Fr [] w w5 := by
                  refine F4.out.trans (Fr.of_grown hgrow ((Value.ownBlock (.slice a j c)).toList) (fun k hk => .inl (by simp [hk]))) ?_
                  intro k hk
                  simp only [Option.mem_toList] at hk
                  exact .inr (O4.out.lt k hk).1
                have O5 := Lib.hid hown2
                have F5 := Lib.hid hF5
                clear hown' hgrow hown2 hF5
                go_wp2_with fail
                go_roundg (en - (j + 1))
                case measure => omega
                case rel => exact ⟨j + 1, rfl, by omega, rfl, O5.out, F5.out⟩
            · skip
              have cl : clampU x.due = 1048576 := by unfold clampU; split <;> (try split) <;> omega
              have CL := Lib.hid cl
              clear cl
              have hgt : 1048576 < x.due := by omega
              cases hdn : x.done
              · have HD := Lib.hid hdn
                rw [hdn] at q4 q4'
                clear hdn
                have hsz0 : (w3.alloc (.cells #[.bool x.inn, .int .i64 (-1), .int .i64 1048576] 52)).heap.size = w3.heap.size + 1 := by simp
                have hfr1 : Fr [] w3 ((w3.alloc (.cells #[.bool x.inn, .int .i64 (-1), .int .i64 1048576] 52)).alloc (.cells #[.bool x.inn, .int .i64 (-1), .int .i64 1048576] 52)) := ((Fr.refl [] w3).alloc _).alloc _
                have hO4 : ((w3.alloc (.cells #[.bool x.inn, .int .i64 (-1), .int .i64 1048576] 52)).alloc (.cells #[.bool x.inn, .int .i64 (-1), .int .i64 1048576] 52)).ownsRow w.heap.size 52 3 (.slice a j c) j (mcells ((E.take j).map startM)) := own_fr O3.out hfr1
                have hnew : ∀ i u, ([.bool x.inn, .int .i64 (-1), .int .i64 1048576] : List Value)[i]? = some u → ((w3.alloc (.cells #[.bool x.inn, .int .i64 (-1), .int .i64 1048576] 52)).alloc (.cells #[.bool x.inn, .int .i64 (-1), .int .i64 1048576] 52)).cell? ((⟨w3.heap.size + 1, 0, none⟩ : Addr).add i) = some u := by
                  intro i u hi
                  rw [Addr_add, Nat.zero_add]
                  have hrn := Row.new (w3.alloc (.cells #[.bool x.inn, .int .i64 (-1), .int .i64 1048576] 52)) [.bool x.inn, .int .i64 (-1), .int .i64 1048576] 52
                  rw [hsz0] at hrn
                  exact (hrn.cell i).trans hi
                have hst : (startM x).cells = [.bool x.inn, .int .i64 (-1), .int .i64 1048576] := by unfold startM MarkD.cells; rw [HD.out, CL.out]; rfl
                have O4 := Lib.hid hO4
                have NW := Lib.hid hnew
                have ST := Lib.hid hst
                have F4 := Lib.hid (F3.out.trans hfr1 (by simp))
                clear hO4 hnew hst hfr1 hsz0
                go_wp2_with (at_builtin; refine wpList_append_own _ rfl _ _ 26 rfl w.heap.size 52 i0 (.agg #[.bool false, .int .i64 0, .int .i64 0]) 3 24 Try.underlying26 HI.out HZ0.out HZ1.out HZ2.out rfl (by decide) _ _ _ rfl O4.out ⟨w3.heap.size + 1, 0, none⟩ 1 1 [.bool x.inn, .int .i64 (-1), .int .i64 1048576] rfl rfl NW.out (by simp [Value.oneCell']) ?c3 ?c4 ?c5 ?_)
                case c3 => unfold maxLen; omega
                case c4 => omega
                case c5 => first | omega | (simp; omega)
                intro v' w5 hown' hgrow _
                have hown2 : w5.ownsRow w.heap.size 52 3 v' (j + 1) (mcells ((E.take (j + 1)).map startM)) := by
                  rw [HT'.out, ST.out]
                  first | exact hown' | (rw [List.map_take]; exact hown')
                have hF5 : Fr [] w w5 := by
                  refine F4.out.trans (Fr.of_grown hgrow ((Value.ownBlock (.slice a j c)).toList) (fun k hk => .inl (by simp [hk]))) ?_
                  intro k hk
                  simp only [Option.mem_toList] at hk
                  exact .inr (O4.out.lt k hk).1
                have O5 := Lib.hid hown2
                have F5 := Lib.hid hF5
                clear hown' hgrow hown2 hF5
                go_wp2_with fail
                go_roundg (en - (j + 1))
                case measure => omega
                case rel => exact ⟨j + 1, rfl, by omega, rfl, O5.out, F5.out⟩
              · have HD := Lib.hid hdn
                rw [hdn] at q4 q4'
                clear hdn
                have hsz0 : (w3.alloc (.cells #[.bool x.inn, .int .i64 0, .int .i64 1048576] 52)).heap.size = w3.heap.size + 1 := by simp
                have hfr1 : Fr [] w3 ((w3.alloc (.cells #[.bool x.inn, .int .i64 0, .int .i64 1048576] 52)).alloc (.cells #[.bool x.inn, .int .i64 0, .int .i64 1048576] 52)) := ((Fr.refl [] w3).alloc _).alloc _
                have hO4 : ((w3.alloc (.cells #[.bool x.inn, .int .i64 0, .int .i64 1048576] 52)).alloc (.cells #[.bool x.inn, .int .i64 0, .int .i64 1048576] 52)).ownsRow w.heap.size 52 3 (.slice a j c) j (mcells ((E.take j).map startM)) := own_fr O3.out hfr1
                have hnew : ∀ i u, ([.bool x.inn, .int .i64 0, .int .i64 1048576] : List Value)[i]? = some u → ((w3.alloc (.cells #[.bool x.inn, .int .i64 0, .int .i64 1048576] 52)).alloc (.cells #[.bool x.inn, .int .i64 0, .int .i64 1048576] 52)).cell? ((⟨w3.heap.size + 1, 0, none⟩ : Addr).add i) = some u := by
                  intro i u hi
                  rw [Addr_add, Nat.zero_add]
                  have hrn := Row.new (w3.alloc (.cells #[.bool x.inn, .int .i64 0, .int .i64 1048576] 52)) [.bool x.inn, .int .i64 0, .int .i64 1048576] 52
                  rw [hsz0] at hrn
                  exact (hrn.cell i).trans hi
                have hst : (startM x).cells = [.bool x.inn, .int .i64 0, .int .i64 1048576] := by unfold startM MarkD.cells; rw [HD.out, CL.out]; rfl
                have O4 := Lib.hid hO4
                have NW := Lib.hid hnew
                have ST := Lib.hid hst
                have F4 := Lib.hid (F3.out.trans hfr1 (by simp))
                clear hO4 hnew hst hfr1 hsz0
                go_wp2_with (at_builtin; refine wpList_append_own _ rfl _ _ 26 rfl w.heap.size 52 i0 (.agg #[.bool false, .int .i64 0, .int .i64 0]) 3 24 Try.underlying26 HI.out HZ0.out HZ1.out HZ2.out rfl (by decide) _ _ _ rfl O4.out ⟨w3.heap.size + 1, 0, none⟩ 1 1 [.bool x.inn, .int .i64 0, .int .i64 1048576] rfl rfl NW.out (by simp [Value.oneCell']) ?c3 ?c4 ?c5 ?_)
                case c3 => unfold maxLen; omega
                case c4 => omega
                case c5 => first | omega | (simp; omega)
                intro v' w5 hown' hgrow _
                have hown2 : w5.ownsRow w.heap.size 52 3 v' (j + 1) (mcells ((E.take (j + 1)).map startM)) := by
                  rw [HT'.out, ST.out]
                  first | exact hown' | (rw [List.map_take]; exact hown')
                have hF5 : Fr [] w w5 := by
                  refine F4.out.trans (Fr.of_grown hgrow ((Value.ownBlock (.slice a j c)).toList) (fun k hk => .inl (by simp [hk]))) ?_
                  intro k hk
                  simp only [Option.mem_toList] at hk
                  exact .inr (O4.out.lt k hk).1
                have O5 := Lib.hid hown2
                have F5 := Lib.hid hF5
                clear hown' hgrow hown2 hF5
                go_wp2_with fail
                go_roundg (en - (j + 1))
                case measure => omega
                case rel => exact ⟨j + 1, rfl, by omega, rfl, O5.out, F5.out⟩
      -- LEAVES-END
    · have hd : decide (j < en) = false := by rw [decide_eq_false_iff_not]; omega
      obtain rfl : j = en := by omega
      have hfull : E.take j = E := List.take_of_length_le (by rw [HLE.out]; omega)
      rw [hfull] at O
      clear hfull
      go_wp2_with fail
      go_ret
      exact ⟨a, c, rfl, marks_of_own O.out, F.out, fun g o he => (O.out.lt g (by rw [he]; rfl)).1⟩
theorem do_fresh (f : FlatD) (a : Option Addr) (n c : Nat) (M : List MarkD) (i : Int) (w : World) (hf : FlatAt w f) (h : MarksAt w a n M) (hn : n ≤ 100000) :
    Calls Try.prog 29 #[f.val, .slice a n c, .int .i64 i] w (NextF (doM f M i.toNat) (doE f M i) w) := by
  have hl := h.1
  unfold doE
  by_cases h1 : fitsB f.en M = false
  · rw [if_pos h1]
    exact (do_fit f a n c M i w hf h hn h1).mono fun e w' he => nextF_err (by decide) he.1 he.2
  · have h1' : fitsB f.en M = true := by simpa using h1
    rw [if_neg h1]
    by_cases h2 : i < 0 ∨ (M.length : Int) ≤ i
    · rw [if_pos h2]
      exact (do_range f a n c M i w hf h hn h1' (by omega)).mono fun e w' he => nextF_err (by decide) he.1 he.2
    · rw [if_neg h2]
      obtain ⟨k, rfl⟩ := Int.eq_ofNat_of_zero_le (by omega : 0 ≤ i)
      have hk : k < n := by omega
      by_cases h3 : enabB f M k = false
      · rw [if_pos h3]
        exact (do_off f a n c M k w hf h hn h1' hk h3).mono fun e w' he => nextF_err (by decide) he.1 he.2
      · rw [if_neg h3]
        exact (do_ok f a n c M k w hf h hn h1' hk (by simpa using h3)).mono fun e w' he => nextF_ok (by rw [Int.toNat_natCast, doM_length, hl]) he
theorem tick_fresh (f : FlatD) (a : Option Addr) (n c : Nat) (M : List MarkD) (w : World) (h : MarksAt w a n M) (hn : n ≤ 100000) :
    Calls Try.prog 31 #[f.val, .slice a n c] w (NextF (M.map tickM) (tickE f M) w) := by
  have hl := h.1
  unfold tickE
  by_cases h1 : slackI f.en M = -1
  · rw [if_pos h1]
    exact (tick_no1 f a n c M w h hn h1).mono fun e w' he => nextF_err (by decide) he.1 he.2
  · rw [if_neg h1]
    by_cases h2 : slackI f.en M = 0
    · rw [if_pos h2]
      exact (tick_no0 f a n c M w h hn h2).mono fun e w' he => nextF_err (by decide) he.1 he.2
    · rw [if_neg h2]
      exact (tick_ok f a n c M w h hn h1 h2).mono fun e w' he => nextF_ok (by rw [List.length_map, hl]) he
end Go.Proofs.Ytclkahggfdnpgaa
