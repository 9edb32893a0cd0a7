/- Time goes on, the document's own way. (Printed by genrtick.py.) -/
import Derived.Test.YtclkahggfdnpgaaRk5
set_option linter.unusedVariables false
set_option linter.unusedSimpArgs false
namespace Go.Proofs.Ytclkahggfdnpgaa
open Go.RowKit
theorem next_own {N : List MarkD} {n c : Nat} {a : Option Addr} {w w' : World} {base : Nat} (hl : N.length = n) (h : w'.ownsRow base 52 3 (.slice a n c) n (mcells N)) (hF : Fr [] w w') : NextP N 0 w (.returned (.tuple #[.slice a n c, .int .i64 0])) w' :=
  ⟨a, c, by rw [if_pos rfl, hl], by rw [if_pos rfl, if_pos rfl, hl]; exact marks_of_own h, hF⟩
theorem tickE_nofit {f : FlatD} {M : List MarkD} (h : fitsB f.en M = false) : tickE f M = 1 := by
  unfold tickE slackI
  rw [h]
  rfl
theorem tickE_due {f : FlatD} {M : List MarkD} (h : fitsB f.en M = true) (x : MarkD) (hx : x ∈ M) (hi : x.inn = true) (hd : x.due = 0) : tickE f M = 13 := by
  refine tick_due ?_
  have h1 := slack_nn h
  rw [slack_of_fits h] at h1 ⊢
  have := (foldS_le M 1048576).2 x hx ((pend_iff x).2 ⟨hi, by omega⟩)
  omega
theorem foldS_pos (M : List MarkD) : ∀ c : Int, 0 < c → (∀ x ∈ M, x.inn = true → x.due ≠ 0) → 0 < M.foldl slackF c := by
  induction M with
  | nil => intro c h _; exact h
  | cons y M ih =>
    intro c h hx
    rw [List.foldl_cons]
    refine ih _ ?_ (fun x h => hx x (by simp [h]))
    unfold slackF
    split
    · rename_i hp
      have := (pend_iff y).1 hp
      have := hx y (by simp) this.1
      split <;> omega
    · exact h
theorem tickE_go {f : FlatD} {M : List MarkD} (h : fitsB f.en M = true) (hx : ∀ x ∈ M, x.inn = true → x.due ≠ 0) : tickE f M = 0 := by
  refine tick_go h ?_
  rw [slack_of_fits h]
  have := foldS_pos M 1048576 (by decide) hx
  omega
theorem tickM_cells (x : MarkD) (A D : Int) (hA : tickA x = A) (hD : tickU x = D) : (tickM x).cells = [.bool x.inn, .int .i64 A, .int .i64 D] := by
  unfold tickM MarkD.cells
  rw [hA, hD]
theorem own_keep {w w' : World} {base : Nat} {e : TypeId} {size n : Nat} {v : Value} {xs : List Value} {S : List Nat} (h : w.ownsRow base e size v n xs) (f : Fr S w w') (hS : ∀ y, v.ownBlock = some y → y ∉ S) : w'.ownsRow base e size v n xs := by
  refine ⟨h.1, ?_⟩
  rcases h.2 with ⟨rfl, rfl⟩ | ⟨g, cap, cur, rfl, hb, hg, r⟩
  · exact .inl ⟨rfl, rfl⟩
  · exact .inr ⟨g, cap, cur, rfl, hb, (f.block g ((Array.getElem?_eq_some_iff.1 hg).1) (hS g rfl)).trans hg, r⟩
set_option maxRecDepth 100000 in
set_option maxHeartbeats 4000000 in
theorem rtick_any (f : FlatD) (a : Option Addr) (n c : Nat) (M : List MarkD) (w : World) (h : MarksAt w a n M) (hn : n ≤ 100000) (hen : f.en ≤ 100000) :
    Calls Try.prog 32 #[f.val, .slice a n c] w (NextP (M.map tickM) (tickE f M) w) := by
  obtain ⟨i0, hi, hz0, hz1, hz2⟩ := info_parts infoM
  have HI := Lib.hid hi
  have HZ0 := Lib.hid hz0
  have HZ1 := Lib.hid hz1
  have HZ2 := Lib.hid hz2
  clear hi hz0 hz1 hz2
  have hr := (Fr.refl [] w).alloc (.cells #[.slice f.ea f.en f.ec, .slice f.ta f.tn f.tc] 31)
  have HR := Lib.hid hr
  have HM := Lib.hid h
  have HL := Lib.hid h.1
  have C1 := rfits_any f a n c M _ (h.fr hr) hn hen
  clear h hr
  unfold FlatD.val at C1 ⊢
  go_enter Try.func32, Try.ntmps32
  go_wp2_with fail
  refine C1.mono ?_
  rintro e w1 ⟨rfl, hF⟩
  have F1 := Lib.hid (HR.out.trans hF (by simp))
  clear hF C1
  cases hfit : fitsB f.en M
  · have HS := Lib.hid (tickE_nofit hfit)
    clear hfit
    go_wp2_with fail
    go_ret2
    rw [HS.out]
    exact next_err (by decide) rfl F1.out
  have HFIT := Lib.hid hfit
  clear hfit
  have HW := Lib.hid (own_empty w1 52 3)
  have FE := Lib.hid ((((Fr.refl [] w1).alloc (.cells #[] 52))) : Fr [] w1 (w1.alloc (.cells #[] 52)))
  go_wp2_with fail
  go_loopg [6, 7] n (fun k v i wr => ∃ (j : Nat), k = n - j ∧ j ≤ n ∧ i = .int .i64 j ∧ wr.ownsRow w1.heap.size 52 3 v j (mcells ((M.take j).map tickM)) ∧ (∀ x ∈ M.take j, x.inn = true → x.due ≠ 0) ∧ Fr [] w1 wr)
  case atStart => exact ⟨0, rfl, by omega, rfl, HW.out, by simp, FE.out⟩
  case round =>
    obtain ⟨j, rfl, hj, rfl, hO, hnd, hF⟩ := hrel
    obtain ⟨ao, co, rfl⟩ := own_slice hO
    have O := Lib.hid hO
    have F := Lib.hid hF
    have FW := Lib.hid (F1.out.trans hF (by simp))
    have HND := Lib.hid hnd
    have hwsz : w1.heap.size ≤ wr.heap.size := hF.size
    clear hO hF hnd
    by_cases hjn : j < n
    · have hd : decide (j < n) = true := by rw [decide_eq_true_iff]; omega
      have hjl : j < M.length := by rw [HL.out]; exact hjn
      obtain ⟨b1, o1, rfl, hb1, hc1⟩ := (HM.out.fr FW.out).2.at_ (by omega)
      have hcx := hc1 j hjn
      have ht := take_succD M j hjl
      have hmem := getD_mem M j hjl
      generalize M.getD j default = x at hcx ht hmem
      have hg := not_bad (fits_not HFIT.out x hmem)
      have hc' : ∀ k v, ([.bool x.inn, .int .i64 x.age, .int .i64 x.due] : List Value)[k]? = some v → wr.cell? ⟨b1, o1 + j * 3 + k, none⟩ = some v := hcx
      have HC := Lib.hid hc'
      have HT := Lib.hid ht
      have HMEM := Lib.hid hmem
      clear hcx hc' hc1 ht hmem hjl
      go_wp2_with (first | ((with_reducible refine wpList_load_at rfl 52 (.tmp 22) rfl agg52 3 size52 b1 (o1 + j * 3) [.bool x.inn, .int .i64 x.age, .int .i64 x.due] rfl HC.out ?_ ?_); exact rfl) | ((with_reducible refine wpList_var_agg rfl rfl 52 (.tmp 8) (.tmp 23) rfl rfl 3 zero52 [.bool x.inn, .int .i64 x.age, .int .i64 x.due] rfl ?_ ?_ ?_ ?_); (intro u hu; simp at hu; rcases hu with rfl | rfl | rfl <;> rfl); exact rfl; exact rfl))
      intro w3 hr3 hs3 hf3
      have F3 := Lib.hid (F.out.trans hf3 (by simp))
      have O3 := Lib.hid (own_fr O.out hf3)
      have R3 := Lib.hid hr3
      have q0 : w3.cell? ⟨wr.heap.size, 0, none⟩ = some (.bool x.inn) := hr3.cell 0
      have q1 : w3.cell? ⟨wr.heap.size, 1, none⟩ = some (.int .i64 x.age) := hr3.cell 1
      have q2 : w3.cell? ⟨wr.heap.size, 2, none⟩ = some (.int .i64 x.due) := hr3.cell 2
      have f1 := hr3.frozen 1
      have f2 := hr3.frozen 2
      have hlt3 : wr.heap.size < w3.heap.size := by omega
      have HT' := Lib.hid (by rw [HT.out, List.map_append, List.map_cons, List.map_nil, mcells_snoc] : mcells ((M.take (j + 1)).map tickM) = mcells ((M.take j).map tickM) ++ (tickM x).cells)
      have HN' : (x.inn = true → x.due ≠ 0) → ∀ y ∈ M.take (j + 1), y.inn = true → y.due ≠ 0 := by
        intro h y hy
        rw [HT.out] at hy
        rcases List.mem_append.1 hy with h1 | h1
        · exact HND.out y h1
        · simp at h1
          subst h1
          exact h
      have HN' := Lib.hid HN'
      clear hr3 hs3 hf3
      cases hin : x.inn
      · have HINN := Lib.hid hin
        have NZ := Lib.hid (show x.inn = true → x.due ≠ 0 by rw [hin]; simp)
        have TU := Lib.hid (show tickU x = x.due by unfold tickU; rw [hin]; simp)
        rw [hin] at q0
        clear hin
        by_cases hg0 : x.age ≥ 0
        · have dg0 : decide (x.age ≥ 0) = true := decide_eq_true hg0
          by_cases hg1 : x.age < 65536
          · have dg1 : decide (x.age < 65536) = true := decide_eq_true hg1
            have TA := Lib.hid (show tickA x = x.age + 1 by unfold tickA; split <;> (try split) <;> omega)
            have a0 : (w3.setCell ⟨wr.heap.size, 1, none⟩ (.int .i64 (x.age + 1))).cell? ⟨wr.heap.size, 0, none⟩ = some (.bool false) := by rw [← HINN.out]; exact (R3.out.setCell 1 (.int .i64 (x.age + 1))).cell 0
            have a1 : (w3.setCell ⟨wr.heap.size, 1, none⟩ (.int .i64 (x.age + 1))).cell? ⟨wr.heap.size, 1, none⟩ = some (.int .i64 (x.age + 1)) := (R3.out.setCell 1 (.int .i64 (x.age + 1))).cell 1
            have a2 : (w3.setCell ⟨wr.heap.size, 1, none⟩ (.int .i64 (x.age + 1))).cell? ⟨wr.heap.size, 2, none⟩ = some (.int .i64 x.due) := (R3.out.setCell 1 (.int .i64 (x.age + 1))).cell 2
            have a3 : (w3.setCell ⟨wr.heap.size, 1, none⟩ (.int .i64 (x.age + 1))).frozen? ⟨wr.heap.size, 2, none⟩ = false := (R3.out.setCell 1 (.int .i64 (x.age + 1))).frozen 2
            have hszx : (w3.setCell ⟨wr.heap.size, 1, none⟩ (.int .i64 (x.age + 1))).heap.size = w3.heap.size := by simp
            have fwx : Fr [wr.heap.size] w3 (w3.setCell ⟨wr.heap.size, 1, none⟩ (.int .i64 (x.age + 1))) := ((Fr.refl _ w3).setCell (p := ⟨wr.heap.size, 1, none⟩) (.inl (by simp)) _)
            have hO4 : ((w3.setCell ⟨wr.heap.size, 1, none⟩ (.int .i64 (x.age + 1))).alloc (.cells #[.bool false, .int .i64 (x.age + 1), .int .i64 x.due] 52)).ownsRow w1.heap.size 52 3 (.slice ao j co) j (mcells ((M.take j).map tickM)) := own_keep O3.out (fwx.alloc _) (fun y hy hm => by simp only [List.mem_singleton] at hm; have := (O.out.lt y hy).2; omega)
            have hnew : ∀ i u, ([.bool false, .int .i64 (x.age + 1), .int .i64 x.due] : List Value)[i]? = some u → ((w3.setCell ⟨wr.heap.size, 1, none⟩ (.int .i64 (x.age + 1))).alloc (.cells #[.bool false, .int .i64 (x.age + 1), .int .i64 x.due] 52)).cell? ((⟨w3.heap.size, 0, none⟩ : Addr).add i) = some u := by
              intro i u hi
              rw [Addr_add, Nat.zero_add]
              have hrn := Row.new (w3.setCell ⟨wr.heap.size, 1, none⟩ (.int .i64 (x.age + 1))) [.bool false, .int .i64 (x.age + 1), .int .i64 x.due] 52
              rw [hszx] at hrn
              exact (hrn.cell i).trans hi
            have hst : (tickM x).cells = [.bool false, .int .i64 (x.age + 1), .int .i64 x.due] := by rw [tickM_cells x ((x.age + 1)) (x.due) TA.out TU.out, HINN.out]
            have O4 := Lib.hid hO4
            have NW := Lib.hid hnew
            have ST := Lib.hid hst
            have F4 := Lib.hid (F3.out.trans (fwx.alloc (.cells #[.bool false, .int .i64 (x.age + 1), .int .i64 x.due] 52)) (by intro y hy; simp only [List.mem_singleton] at hy; exact .inr (by omega)) : Fr [] w1 ((w3.setCell ⟨wr.heap.size, 1, none⟩ (.int .i64 (x.age + 1))).alloc (.cells #[.bool false, .int .i64 (x.age + 1), .int .i64 x.due] 52)))
            have HSZ := Lib.hid hszx
            clear hO4 hnew hst hszx fwx
            go_wp2_with (at_builtin; refine wpList_append_own _ rfl _ _ 26 rfl w1.heap.size 52 i0 (.agg #[.bool false, .int .i64 0, .int .i64 0]) 3 24 Try.underlying26 HI.out HZ0.out HZ1.out HZ2.out rfl (by decide) _ _ _ rfl O4.out ⟨w3.heap.size, 0, none⟩ 1 1 [.bool false, .int .i64 (x.age + 1), .int .i64 x.due] rfl rfl NW.out (by simp [Value.oneCell']) ?c3 ?c4 ?c5 ?_)
            case c3 => unfold maxLen; omega
            case c4 => omega
            case c5 => first | omega | (simp; omega)
            intro v' w5 hown' hgrow _
            have hown2 : w5.ownsRow w1.heap.size 52 3 v' (j + 1) (mcells ((M.take (j + 1)).map tickM)) := by
              rw [HT'.out, ST.out]
              first | exact hown' | (rw [List.map_take]; exact hown')
            have hF5 : Fr [] w1 w5 := by
              refine F4.out.trans (Fr.of_grown hgrow ((Value.ownBlock (.slice ao j co)).toList) (fun k hk => .inl (by simp [hk]))) ?_
              intro k hk
              simp only [Option.mem_toList] at hk
              exact .inr (O4.out.lt k hk).1
            have O5 := Lib.hid hown2
            have F5 := Lib.hid hF5
            clear hown' hgrow hown2 hF5
            go_wp2_with fail
            go_roundg (n - (j + 1))
            case measure => omega
            case rel => exact ⟨j + 1, rfl, by omega, rfl, O5.out, HN'.out NZ.out, F5.out⟩
          · have dg1 : decide (x.age < 65536) = false := decide_eq_false hg1
            have TA := Lib.hid (show tickA x = x.age by unfold tickA; split <;> (try split) <;> omega)
            have hszx : w3.heap.size = w3.heap.size := by simp
            have fwx : Fr [wr.heap.size] w3 w3 := (Fr.refl _ w3)
            have hO4 : (w3.alloc (.cells #[.bool false, .int .i64 x.age, .int .i64 x.due] 52)).ownsRow w1.heap.size 52 3 (.slice ao j co) j (mcells ((M.take j).map tickM)) := own_keep O3.out (fwx.alloc _) (fun y hy hm => by simp only [List.mem_singleton] at hm; have := (O.out.lt y hy).2; omega)
            have hnew : ∀ i u, ([.bool false, .int .i64 x.age, .int .i64 x.due] : List Value)[i]? = some u → (w3.alloc (.cells #[.bool false, .int .i64 x.age, .int .i64 x.due] 52)).cell? ((⟨w3.heap.size, 0, none⟩ : Addr).add i) = some u := by
              intro i u hi
              rw [Addr_add, Nat.zero_add]
              have hrn := Row.new w3 [.bool false, .int .i64 x.age, .int .i64 x.due] 52
              rw [hszx] at hrn
              exact (hrn.cell i).trans hi
            have hst : (tickM x).cells = [.bool false, .int .i64 x.age, .int .i64 x.due] := by rw [tickM_cells x (x.age) (x.due) TA.out TU.out, HINN.out]
            have O4 := Lib.hid hO4
            have NW := Lib.hid hnew
            have ST := Lib.hid hst
            have F4 := Lib.hid (F3.out.trans (fwx.alloc (.cells #[.bool false, .int .i64 x.age, .int .i64 x.due] 52)) (by intro y hy; simp only [List.mem_singleton] at hy; exact .inr (by omega)) : Fr [] w1 (w3.alloc (.cells #[.bool false, .int .i64 x.age, .int .i64 x.due] 52)))
            have HSZ := Lib.hid hszx
            clear hO4 hnew hst hszx fwx
            go_wp2_with (at_builtin; refine wpList_append_own _ rfl _ _ 26 rfl w1.heap.size 52 i0 (.agg #[.bool false, .int .i64 0, .int .i64 0]) 3 24 Try.underlying26 HI.out HZ0.out HZ1.out HZ2.out rfl (by decide) _ _ _ rfl O4.out ⟨w3.heap.size, 0, none⟩ 1 1 [.bool false, .int .i64 x.age, .int .i64 x.due] rfl rfl NW.out (by simp [Value.oneCell']) ?c3 ?c4 ?c5 ?_)
            case c3 => unfold maxLen; omega
            case c4 => omega
            case c5 => first | omega | (simp; omega)
            intro v' w5 hown' hgrow _
            have hown2 : w5.ownsRow w1.heap.size 52 3 v' (j + 1) (mcells ((M.take (j + 1)).map tickM)) := by
              rw [HT'.out, ST.out]
              first | exact hown' | (rw [List.map_take]; exact hown')
            have hF5 : Fr [] w1 w5 := by
              refine F4.out.trans (Fr.of_grown hgrow ((Value.ownBlock (.slice ao j co)).toList) (fun k hk => .inl (by simp [hk]))) ?_
              intro k hk
              simp only [Option.mem_toList] at hk
              exact .inr (O4.out.lt k hk).1
            have O5 := Lib.hid hown2
            have F5 := Lib.hid hF5
            clear hown' hgrow hown2 hF5
            go_wp2_with fail
            go_roundg (n - (j + 1))
            case measure => omega
            case rel => exact ⟨j + 1, rfl, by omega, rfl, O5.out, HN'.out NZ.out, F5.out⟩
        · have dg0 : decide (x.age ≥ 0) = false := decide_eq_false hg0
          have TA := Lib.hid (show tickA x = x.age by unfold tickA; split <;> (try split) <;> omega)
          have hszx : w3.heap.size = w3.heap.size := by simp
          have fwx : Fr [wr.heap.size] w3 w3 := (Fr.refl _ w3)
          have hO4 : (w3.alloc (.cells #[.bool false, .int .i64 x.age, .int .i64 x.due] 52)).ownsRow w1.heap.size 52 3 (.slice ao j co) j (mcells ((M.take j).map tickM)) := own_keep O3.out (fwx.alloc _) (fun y hy hm => by simp only [List.mem_singleton] at hm; have := (O.out.lt y hy).2; omega)
          have hnew : ∀ i u, ([.bool false, .int .i64 x.age, .int .i64 x.due] : List Value)[i]? = some u → (w3.alloc (.cells #[.bool false, .int .i64 x.age, .int .i64 x.due] 52)).cell? ((⟨w3.heap.size, 0, none⟩ : Addr).add i) = some u := by
            intro i u hi
            rw [Addr_add, Nat.zero_add]
            have hrn := Row.new w3 [.bool false, .int .i64 x.age, .int .i64 x.due] 52
            rw [hszx] at hrn
            exact (hrn.cell i).trans hi
          have hst : (tickM x).cells = [.bool false, .int .i64 x.age, .int .i64 x.due] := by rw [tickM_cells x (x.age) (x.due) TA.out TU.out, HINN.out]
          have O4 := Lib.hid hO4
          have NW := Lib.hid hnew
          have ST := Lib.hid hst
          have F4 := Lib.hid (F3.out.trans (fwx.alloc (.cells #[.bool false, .int .i64 x.age, .int .i64 x.due] 52)) (by intro y hy; simp only [List.mem_singleton] at hy; exact .inr (by omega)) : Fr [] w1 (w3.alloc (.cells #[.bool false, .int .i64 x.age, .int .i64 x.due] 52)))
          have HSZ := Lib.hid hszx
          clear hO4 hnew hst hszx fwx
          go_wp2_with (at_builtin; refine wpList_append_own _ rfl _ _ 26 rfl w1.heap.size 52 i0 (.agg #[.bool false, .int .i64 0, .int .i64 0]) 3 24 Try.underlying26 HI.out HZ0.out HZ1.out HZ2.out rfl (by decide) _ _ _ rfl O4.out ⟨w3.heap.size, 0, none⟩ 1 1 [.bool false, .int .i64 x.age, .int .i64 x.due] rfl rfl NW.out (by simp [Value.oneCell']) ?c3 ?c4 ?c5 ?_)
          case c3 => unfold maxLen; omega
          case c4 => omega
          case c5 => first | omega | (simp; omega)
          intro v' w5 hown' hgrow _
          have hown2 : w5.ownsRow w1.heap.size 52 3 v' (j + 1) (mcells ((M.take (j + 1)).map tickM)) := by
            rw [HT'.out, ST.out]
            first | exact hown' | (rw [List.map_take]; exact hown')
          have hF5 : Fr [] w1 w5 := by
            refine F4.out.trans (Fr.of_grown hgrow ((Value.ownBlock (.slice ao j co)).toList) (fun k hk => .inl (by simp [hk]))) ?_
            intro k hk
            simp only [Option.mem_toList] at hk
            exact .inr (O4.out.lt k hk).1
          have O5 := Lib.hid hown2
          have F5 := Lib.hid hF5
          clear hown' hgrow hown2 hF5
          go_wp2_with fail
          go_roundg (n - (j + 1))
          case measure => omega
          case rel => exact ⟨j + 1, rfl, by omega, rfl, O5.out, HN'.out NZ.out, F5.out⟩
      · have HINN := Lib.hid hin
        rw [hin] at q0
        by_cases h0 : x.due = 0
        · have e0 : (x.due == 0) = true := beq_iff_eq.2 h0
          have HE := Lib.hid (tickE_due HFIT.out x HMEM.out hin h0)
          have F9 := Lib.hid (F1.out.trans F3.out (by simp))
          clear hin h0
          go_wp2_with fail
          go_ret2
          rw [HE.out]
          exact next_err (by decide) rfl F9.out
        have e0 : (x.due == 0) = false := beq_eq_false_iff_ne.2 h0
        have NZ := Lib.hid (show x.inn = true → x.due ≠ 0 from fun _ => h0)
        by_cases h1 : x.due > 0
        · have d1 : decide (x.due > 0) = true := decide_eq_true h1
          by_cases h2 : x.due < 1048576
          · have d2 : decide (x.due < 1048576) = true := decide_eq_true h2
            have TU := Lib.hid (show tickU x = x.due - 1 by unfold tickU; rw [if_pos ⟨hin, h1, h2⟩])
            clear hin h0
            by_cases hg0 : x.age ≥ 0
            · have dg0 : decide (x.age ≥ 0) = true := decide_eq_true hg0
              by_cases hg1 : x.age < 65536
              · have dg1 : decide (x.age < 65536) = true := decide_eq_true hg1
                have TA := Lib.hid (show tickA x = x.age + 1 by unfold tickA; split <;> (try split) <;> omega)
                have a0 : (w3.setCell ⟨wr.heap.size, 1, none⟩ (.int .i64 (x.age + 1))).cell? ⟨wr.heap.size, 0, none⟩ = some (.bool true) := by rw [← HINN.out]; exact (R3.out.setCell 1 (.int .i64 (x.age + 1))).cell 0
                have a1 : (w3.setCell ⟨wr.heap.size, 1, none⟩ (.int .i64 (x.age + 1))).cell? ⟨wr.heap.size, 1, none⟩ = some (.int .i64 (x.age + 1)) := (R3.out.setCell 1 (.int .i64 (x.age + 1))).cell 1
                have a2 : (w3.setCell ⟨wr.heap.size, 1, none⟩ (.int .i64 (x.age + 1))).cell? ⟨wr.heap.size, 2, none⟩ = some (.int .i64 x.due) := (R3.out.setCell 1 (.int .i64 (x.age + 1))).cell 2
                have a3 : (w3.setCell ⟨wr.heap.size, 1, none⟩ (.int .i64 (x.age + 1))).frozen? ⟨wr.heap.size, 2, none⟩ = false := (R3.out.setCell 1 (.int .i64 (x.age + 1))).frozen 2
                have b0 : ((w3.setCell ⟨wr.heap.size, 1, none⟩ (.int .i64 (x.age + 1))).setCell ⟨wr.heap.size, 2, none⟩ (.int .i64 (x.due - 1))).cell? ⟨wr.heap.size, 0, none⟩ = some (.bool true) := by rw [← HINN.out]; exact ((R3.out.setCell 1 (.int .i64 (x.age + 1))).setCell 2 (.int .i64 (x.due - 1))).cell 0
                have b1 : ((w3.setCell ⟨wr.heap.size, 1, none⟩ (.int .i64 (x.age + 1))).setCell ⟨wr.heap.size, 2, none⟩ (.int .i64 (x.due - 1))).cell? ⟨wr.heap.size, 1, none⟩ = some (.int .i64 (x.age + 1)) := ((R3.out.setCell 1 (.int .i64 (x.age + 1))).setCell 2 (.int .i64 (x.due - 1))).cell 1
                have b2 : ((w3.setCell ⟨wr.heap.size, 1, none⟩ (.int .i64 (x.age + 1))).setCell ⟨wr.heap.size, 2, none⟩ (.int .i64 (x.due - 1))).cell? ⟨wr.heap.size, 2, none⟩ = some (.int .i64 (x.due - 1)) := ((R3.out.setCell 1 (.int .i64 (x.age + 1))).setCell 2 (.int .i64 (x.due - 1))).cell 2
                have hszx : ((w3.setCell ⟨wr.heap.size, 1, none⟩ (.int .i64 (x.age + 1))).setCell ⟨wr.heap.size, 2, none⟩ (.int .i64 (x.due - 1))).heap.size = w3.heap.size := by simp
                have fwx : Fr [wr.heap.size] w3 ((w3.setCell ⟨wr.heap.size, 1, none⟩ (.int .i64 (x.age + 1))).setCell ⟨wr.heap.size, 2, none⟩ (.int .i64 (x.due - 1))) := (((Fr.refl _ w3).setCell (p := ⟨wr.heap.size, 1, none⟩) (.inl (by simp)) _).setCell (p := ⟨wr.heap.size, 2, none⟩) (.inl (by simp)) _)
                have hO4 : (((w3.setCell ⟨wr.heap.size, 1, none⟩ (.int .i64 (x.age + 1))).setCell ⟨wr.heap.size, 2, none⟩ (.int .i64 (x.due - 1))).alloc (.cells #[.bool true, .int .i64 (x.age + 1), .int .i64 (x.due - 1)] 52)).ownsRow w1.heap.size 52 3 (.slice ao j co) j (mcells ((M.take j).map tickM)) := own_keep O3.out (fwx.alloc _) (fun y hy hm => by simp only [List.mem_singleton] at hm; have := (O.out.lt y hy).2; omega)
                have hnew : ∀ i u, ([.bool true, .int .i64 (x.age + 1), .int .i64 (x.due - 1)] : List Value)[i]? = some u → (((w3.setCell ⟨wr.heap.size, 1, none⟩ (.int .i64 (x.age + 1))).setCell ⟨wr.heap.size, 2, none⟩ (.int .i64 (x.due - 1))).alloc (.cells #[.bool true, .int .i64 (x.age + 1), .int .i64 (x.due - 1)] 52)).cell? ((⟨w3.heap.size, 0, none⟩ : Addr).add i) = some u := by
                  intro i u hi
                  rw [Addr_add, Nat.zero_add]
                  have hrn := Row.new ((w3.setCell ⟨wr.heap.size, 1, none⟩ (.int .i64 (x.age + 1))).setCell ⟨wr.heap.size, 2, none⟩ (.int .i64 (x.due - 1))) [.bool true, .int .i64 (x.age + 1), .int .i64 (x.due - 1)] 52
                  rw [hszx] at hrn
                  exact (hrn.cell i).trans hi
                have hst : (tickM x).cells = [.bool true, .int .i64 (x.age + 1), .int .i64 (x.due - 1)] := by rw [tickM_cells x ((x.age + 1)) ((x.due - 1)) TA.out TU.out, HINN.out]
                have O4 := Lib.hid hO4
                have NW := Lib.hid hnew
                have ST := Lib.hid hst
                have F4 := Lib.hid (F3.out.trans (fwx.alloc (.cells #[.bool true, .int .i64 (x.age + 1), .int .i64 (x.due - 1)] 52)) (by intro y hy; simp only [List.mem_singleton] at hy; exact .inr (by omega)) : Fr [] w1 (((w3.setCell ⟨wr.heap.size, 1, none⟩ (.int .i64 (x.age + 1))).setCell ⟨wr.heap.size, 2, none⟩ (.int .i64 (x.due - 1))).alloc (.cells #[.bool true, .int .i64 (x.age + 1), .int .i64 (x.due - 1)] 52)))
                have HSZ := Lib.hid hszx
                clear hO4 hnew hst hszx fwx
                go_wp2_with (at_builtin; refine wpList_append_own _ rfl _ _ 26 rfl w1.heap.size 52 i0 (.agg #[.bool false, .int .i64 0, .int .i64 0]) 3 24 Try.underlying26 HI.out HZ0.out HZ1.out HZ2.out rfl (by decide) _ _ _ rfl O4.out ⟨w3.heap.size, 0, none⟩ 1 1 [.bool true, .int .i64 (x.age + 1), .int .i64 (x.due - 1)] rfl rfl NW.out (by simp [Value.oneCell']) ?c3 ?c4 ?c5 ?_)
                case c3 => unfold maxLen; omega
                case c4 => omega
                case c5 => first | omega | (simp; omega)
                intro v' w5 hown' hgrow _
                have hown2 : w5.ownsRow w1.heap.size 52 3 v' (j + 1) (mcells ((M.take (j + 1)).map tickM)) := by
                  rw [HT'.out, ST.out]
                  first | exact hown' | (rw [List.map_take]; exact hown')
                have hF5 : Fr [] w1 w5 := by
                  refine F4.out.trans (Fr.of_grown hgrow ((Value.ownBlock (.slice ao j co)).toList) (fun k hk => .inl (by simp [hk]))) ?_
                  intro k hk
                  simp only [Option.mem_toList] at hk
                  exact .inr (O4.out.lt k hk).1
                have O5 := Lib.hid hown2
                have F5 := Lib.hid hF5
                clear hown' hgrow hown2 hF5
                go_wp2_with fail
                go_roundg (n - (j + 1))
                case measure => omega
                case rel => exact ⟨j + 1, rfl, by omega, rfl, O5.out, HN'.out NZ.out, F5.out⟩
              · have dg1 : decide (x.age < 65536) = false := decide_eq_false hg1
                have TA := Lib.hid (show tickA x = x.age by unfold tickA; split <;> (try split) <;> omega)
                have b0 : (w3.setCell ⟨wr.heap.size, 2, none⟩ (.int .i64 (x.due - 1))).cell? ⟨wr.heap.size, 0, none⟩ = some (.bool true) := by rw [← HINN.out]; exact (R3.out.setCell 2 (.int .i64 (x.due - 1))).cell 0
                have b1 : (w3.setCell ⟨wr.heap.size, 2, none⟩ (.int .i64 (x.due - 1))).cell? ⟨wr.heap.size, 1, none⟩ = some (.int .i64 x.age) := (R3.out.setCell 2 (.int .i64 (x.due - 1))).cell 1
                have b2 : (w3.setCell ⟨wr.heap.size, 2, none⟩ (.int .i64 (x.due - 1))).cell? ⟨wr.heap.size, 2, none⟩ = some (.int .i64 (x.due - 1)) := (R3.out.setCell 2 (.int .i64 (x.due - 1))).cell 2
                have hszx : (w3.setCell ⟨wr.heap.size, 2, none⟩ (.int .i64 (x.due - 1))).heap.size = w3.heap.size := by simp
                have fwx : Fr [wr.heap.size] w3 (w3.setCell ⟨wr.heap.size, 2, none⟩ (.int .i64 (x.due - 1))) := ((Fr.refl _ w3).setCell (p := ⟨wr.heap.size, 2, none⟩) (.inl (by simp)) _)
                have hO4 : ((w3.setCell ⟨wr.heap.size, 2, none⟩ (.int .i64 (x.due - 1))).alloc (.cells #[.bool true, .int .i64 x.age, .int .i64 (x.due - 1)] 52)).ownsRow w1.heap.size 52 3 (.slice ao j co) j (mcells ((M.take j).map tickM)) := own_keep O3.out (fwx.alloc _) (fun y hy hm => by simp only [List.mem_singleton] at hm; have := (O.out.lt y hy).2; omega)
                have hnew : ∀ i u, ([.bool true, .int .i64 x.age, .int .i64 (x.due - 1)] : List Value)[i]? = some u → ((w3.setCell ⟨wr.heap.size, 2, none⟩ (.int .i64 (x.due - 1))).alloc (.cells #[.bool true, .int .i64 x.age, .int .i64 (x.due - 1)] 52)).cell? ((⟨w3.heap.size, 0, none⟩ : Addr).add i) = some u := by
                  intro i u hi
                  rw [Addr_add, Nat.zero_add]
                  have hrn := Row.new (w3.setCell ⟨wr.heap.size, 2, none⟩ (.int .i64 (x.due - 1))) [.bool true, .int .i64 x.age, .int .i64 (x.due - 1)] 52
                  rw [hszx] at hrn
                  exact (hrn.cell i).trans hi
                have hst : (tickM x).cells = [.bool true, .int .i64 x.age, .int .i64 (x.due - 1)] := by rw [tickM_cells x (x.age) ((x.due - 1)) TA.out TU.out, HINN.out]
                have O4 := Lib.hid hO4
                have NW := Lib.hid hnew
                have ST := Lib.hid hst
                have F4 := Lib.hid (F3.out.trans (fwx.alloc (.cells #[.bool true, .int .i64 x.age, .int .i64 (x.due - 1)] 52)) (by intro y hy; simp only [List.mem_singleton] at hy; exact .inr (by omega)) : Fr [] w1 ((w3.setCell ⟨wr.heap.size, 2, none⟩ (.int .i64 (x.due - 1))).alloc (.cells #[.bool true, .int .i64 x.age, .int .i64 (x.due - 1)] 52)))
                have HSZ := Lib.hid hszx
                clear hO4 hnew hst hszx fwx
                go_wp2_with (at_builtin; refine wpList_append_own _ rfl _ _ 26 rfl w1.heap.size 52 i0 (.agg #[.bool false, .int .i64 0, .int .i64 0]) 3 24 Try.underlying26 HI.out HZ0.out HZ1.out HZ2.out rfl (by decide) _ _ _ rfl O4.out ⟨w3.heap.size, 0, none⟩ 1 1 [.bool true, .int .i64 x.age, .int .i64 (x.due - 1)] rfl rfl NW.out (by simp [Value.oneCell']) ?c3 ?c4 ?c5 ?_)
                case c3 => unfold maxLen; omega
                case c4 => omega
                case c5 => first | omega | (simp; omega)
                intro v' w5 hown' hgrow _
                have hown2 : w5.ownsRow w1.heap.size 52 3 v' (j + 1) (mcells ((M.take (j + 1)).map tickM)) := by
                  rw [HT'.out, ST.out]
                  first | exact hown' | (rw [List.map_take]; exact hown')
                have hF5 : Fr [] w1 w5 := by
                  refine F4.out.trans (Fr.of_grown hgrow ((Value.ownBlock (.slice ao j co)).toList) (fun k hk => .inl (by simp [hk]))) ?_
                  intro k hk
                  simp only [Option.mem_toList] at hk
                  exact .inr (O4.out.lt k hk).1
                have O5 := Lib.hid hown2
                have F5 := Lib.hid hF5
                clear hown' hgrow hown2 hF5
                go_wp2_with fail
                go_roundg (n - (j + 1))
                case measure => omega
                case rel => exact ⟨j + 1, rfl, by omega, rfl, O5.out, HN'.out NZ.out, F5.out⟩
            · have dg0 : decide (x.age ≥ 0) = false := decide_eq_false hg0
              have TA := Lib.hid (show tickA x = x.age by unfold tickA; split <;> (try split) <;> omega)
              have b0 : (w3.setCell ⟨wr.heap.size, 2, none⟩ (.int .i64 (x.due - 1))).cell? ⟨wr.heap.size, 0, none⟩ = some (.bool true) := by rw [← HINN.out]; exact (R3.out.setCell 2 (.int .i64 (x.due - 1))).cell 0
              have b1 : (w3.setCell ⟨wr.heap.size, 2, none⟩ (.int .i64 (x.due - 1))).cell? ⟨wr.heap.size, 1, none⟩ = some (.int .i64 x.age) := (R3.out.setCell 2 (.int .i64 (x.due - 1))).cell 1
              have b2 : (w3.setCell ⟨wr.heap.size, 2, none⟩ (.int .i64 (x.due - 1))).cell? ⟨wr.heap.size, 2, none⟩ = some (.int .i64 (x.due - 1)) := (R3.out.setCell 2 (.int .i64 (x.due - 1))).cell 2
              have hszx : (w3.setCell ⟨wr.heap.size, 2, none⟩ (.int .i64 (x.due - 1))).heap.size = w3.heap.size := by simp
              have fwx : Fr [wr.heap.size] w3 (w3.setCell ⟨wr.heap.size, 2, none⟩ (.int .i64 (x.due - 1))) := ((Fr.refl _ w3).setCell (p := ⟨wr.heap.size, 2, none⟩) (.inl (by simp)) _)
              have hO4 : ((w3.setCell ⟨wr.heap.size, 2, none⟩ (.int .i64 (x.due - 1))).alloc (.cells #[.bool true, .int .i64 x.age, .int .i64 (x.due - 1)] 52)).ownsRow w1.heap.size 52 3 (.slice ao j co) j (mcells ((M.take j).map tickM)) := own_keep O3.out (fwx.alloc _) (fun y hy hm => by simp only [List.mem_singleton] at hm; have := (O.out.lt y hy).2; omega)
              have hnew : ∀ i u, ([.bool true, .int .i64 x.age, .int .i64 (x.due - 1)] : List Value)[i]? = some u → ((w3.setCell ⟨wr.heap.size, 2, none⟩ (.int .i64 (x.due - 1))).alloc (.cells #[.bool true, .int .i64 x.age, .int .i64 (x.due - 1)] 52)).cell? ((⟨w3.heap.size, 0, none⟩ : Addr).add i) = some u := by
                intro i u hi
                rw [Addr_add, Nat.zero_add]
                have hrn := Row.new (w3.setCell ⟨wr.heap.size, 2, none⟩ (.int .i64 (x.due - 1))) [.bool true, .int .i64 x.age, .int .i64 (x.due - 1)] 52
                rw [hszx] at hrn
                exact (hrn.cell i).trans hi
              have hst : (tickM x).cells = [.bool true, .int .i64 x.age, .int .i64 (x.due - 1)] := by rw [tickM_cells x (x.age) ((x.due - 1)) TA.out TU.out, HINN.out]
              have O4 := Lib.hid hO4
              have NW := Lib.hid hnew
              have ST := Lib.hid hst
              have F4 := Lib.hid (F3.out.trans (fwx.alloc (.cells #[.bool true, .int .i64 x.age, .int .i64 (x.due - 1)] 52)) (by intro y hy; simp only [List.mem_singleton] at hy; exact .inr (by omega)) : Fr [] w1 ((w3.setCell ⟨wr.heap.size, 2, none⟩ (.int .i64 (x.due - 1))).alloc (.cells #[.bool true, .int .i64 x.age, .int .i64 (x.due - 1)] 52)))
              have HSZ := Lib.hid hszx
              clear hO4 hnew hst hszx fwx
              go_wp2_with (at_builtin; refine wpList_append_own _ rfl _ _ 26 rfl w1.heap.size 52 i0 (.agg #[.bool false, .int .i64 0, .int .i64 0]) 3 24 Try.underlying26 HI.out HZ0.out HZ1.out HZ2.out rfl (by decide) _ _ _ rfl O4.out ⟨w3.heap.size, 0, none⟩ 1 1 [.bool true, .int .i64 x.age, .int .i64 (x.due - 1)] rfl rfl NW.out (by simp [Value.oneCell']) ?c3 ?c4 ?c5 ?_)
              case c3 => unfold maxLen; omega
              case c4 => omega
              case c5 => first | omega | (simp; omega)
              intro v' w5 hown' hgrow _
              have hown2 : w5.ownsRow w1.heap.size 52 3 v' (j + 1) (mcells ((M.take (j + 1)).map tickM)) := by
                rw [HT'.out, ST.out]
                first | exact hown' | (rw [List.map_take]; exact hown')
              have hF5 : Fr [] w1 w5 := by
                refine F4.out.trans (Fr.of_grown hgrow ((Value.ownBlock (.slice ao j co)).toList) (fun k hk => .inl (by simp [hk]))) ?_
                intro k hk
                simp only [Option.mem_toList] at hk
                exact .inr (O4.out.lt k hk).1
              have O5 := Lib.hid hown2
              have F5 := Lib.hid hF5
              clear hown' hgrow hown2 hF5
              go_wp2_with fail
              go_roundg (n - (j + 1))
              case measure => omega
              case rel => exact ⟨j + 1, rfl, by omega, rfl, O5.out, HN'.out NZ.out, F5.out⟩
          · have d2 : decide (x.due < 1048576) = false := decide_eq_false h2
            have TU := Lib.hid (show tickU x = x.due by unfold tickU; rw [if_neg (fun h => h2 h.2.2)])
            clear hin h0
            by_cases hg0 : x.age ≥ 0
            · have dg0 : decide (x.age ≥ 0) = true := decide_eq_true hg0
              by_cases hg1 : x.age < 65536
              · have dg1 : decide (x.age < 65536) = true := decide_eq_true hg1
                have TA := Lib.hid (show tickA x = x.age + 1 by unfold tickA; split <;> (try split) <;> omega)
                have a0 : (w3.setCell ⟨wr.heap.size, 1, none⟩ (.int .i64 (x.age + 1))).cell? ⟨wr.heap.size, 0, none⟩ = some (.bool true) := by rw [← HINN.out]; exact (R3.out.setCell 1 (.int .i64 (x.age + 1))).cell 0
                have a1 : (w3.setCell ⟨wr.heap.size, 1, none⟩ (.int .i64 (x.age + 1))).cell? ⟨wr.heap.size, 1, none⟩ = some (.int .i64 (x.age + 1)) := (R3.out.setCell 1 (.int .i64 (x.age + 1))).cell 1
                have a2 : (w3.setCell ⟨wr.heap.size, 1, none⟩ (.int .i64 (x.age + 1))).cell? ⟨wr.heap.size, 2, none⟩ = some (.int .i64 x.due) := (R3.out.setCell 1 (.int .i64 (x.age + 1))).cell 2
                have a3 : (w3.setCell ⟨wr.heap.size, 1, none⟩ (.int .i64 (x.age + 1))).frozen? ⟨wr.heap.size, 2, none⟩ = false := (R3.out.setCell 1 (.int .i64 (x.age + 1))).frozen 2
                have hszx : (w3.setCell ⟨wr.heap.size, 1, none⟩ (.int .i64 (x.age + 1))).heap.size = w3.heap.size := by simp
                have fwx : Fr [wr.heap.size] w3 (w3.setCell ⟨wr.heap.size, 1, none⟩ (.int .i64 (x.age + 1))) := ((Fr.refl _ w3).setCell (p := ⟨wr.heap.size, 1, none⟩) (.inl (by simp)) _)
                have hO4 : ((w3.setCell ⟨wr.heap.size, 1, none⟩ (.int .i64 (x.age + 1))).alloc (.cells #[.bool true, .int .i64 (x.age + 1), .int .i64 x.due] 52)).ownsRow w1.heap.size 52 3 (.slice ao j co) j (mcells ((M.take j).map tickM)) := own_keep O3.out (fwx.alloc _) (fun y hy hm => by simp only [List.mem_singleton] at hm; have := (O.out.lt y hy).2; omega)
                have hnew : ∀ i u, ([.bool true, .int .i64 (x.age + 1), .int .i64 x.due] : List Value)[i]? = some u → ((w3.setCell ⟨wr.heap.size, 1, none⟩ (.int .i64 (x.age + 1))).alloc (.cells #[.bool true, .int .i64 (x.age + 1), .int .i64 x.due] 52)).cell? ((⟨w3.heap.size, 0, none⟩ : Addr).add i) = some u := by
                  intro i u hi
                  rw [Addr_add, Nat.zero_add]
                  have hrn := Row.new (w3.setCell ⟨wr.heap.size, 1, none⟩ (.int .i64 (x.age + 1))) [.bool true, .int .i64 (x.age + 1), .int .i64 x.due] 52
                  rw [hszx] at hrn
                  exact (hrn.cell i).trans hi
                have hst : (tickM x).cells = [.bool true, .int .i64 (x.age + 1), .int .i64 x.due] := by rw [tickM_cells x ((x.age + 1)) (x.due) TA.out TU.out, HINN.out]
                have O4 := Lib.hid hO4
                have NW := Lib.hid hnew
                have ST := Lib.hid hst
                have F4 := Lib.hid (F3.out.trans (fwx.alloc (.cells #[.bool true, .int .i64 (x.age + 1), .int .i64 x.due] 52)) (by intro y hy; simp only [List.mem_singleton] at hy; exact .inr (by omega)) : Fr [] w1 ((w3.setCell ⟨wr.heap.size, 1, none⟩ (.int .i64 (x.age + 1))).alloc (.cells #[.bool true, .int .i64 (x.age + 1), .int .i64 x.due] 52)))
                have HSZ := Lib.hid hszx
                clear hO4 hnew hst hszx fwx
                go_wp2_with (at_builtin; refine wpList_append_own _ rfl _ _ 26 rfl w1.heap.size 52 i0 (.agg #[.bool false, .int .i64 0, .int .i64 0]) 3 24 Try.underlying26 HI.out HZ0.out HZ1.out HZ2.out rfl (by decide) _ _ _ rfl O4.out ⟨w3.heap.size, 0, none⟩ 1 1 [.bool true, .int .i64 (x.age + 1), .int .i64 x.due] rfl rfl NW.out (by simp [Value.oneCell']) ?c3 ?c4 ?c5 ?_)
                case c3 => unfold maxLen; omega
                case c4 => omega
                case c5 => first | omega | (simp; omega)
                intro v' w5 hown' hgrow _
                have hown2 : w5.ownsRow w1.heap.size 52 3 v' (j + 1) (mcells ((M.take (j + 1)).map tickM)) := by
                  rw [HT'.out, ST.out]
                  first | exact hown' | (rw [List.map_take]; exact hown')
                have hF5 : Fr [] w1 w5 := by
                  refine F4.out.trans (Fr.of_grown hgrow ((Value.ownBlock (.slice ao j co)).toList) (fun k hk => .inl (by simp [hk]))) ?_
                  intro k hk
                  simp only [Option.mem_toList] at hk
                  exact .inr (O4.out.lt k hk).1
                have O5 := Lib.hid hown2
                have F5 := Lib.hid hF5
                clear hown' hgrow hown2 hF5
                go_wp2_with fail
                go_roundg (n - (j + 1))
                case measure => omega
                case rel => exact ⟨j + 1, rfl, by omega, rfl, O5.out, HN'.out NZ.out, F5.out⟩
              · have dg1 : decide (x.age < 65536) = false := decide_eq_false hg1
                have TA := Lib.hid (show tickA x = x.age by unfold tickA; split <;> (try split) <;> omega)
                have hszx : w3.heap.size = w3.heap.size := by simp
                have fwx : Fr [wr.heap.size] w3 w3 := (Fr.refl _ w3)
                have hO4 : (w3.alloc (.cells #[.bool true, .int .i64 x.age, .int .i64 x.due] 52)).ownsRow w1.heap.size 52 3 (.slice ao j co) j (mcells ((M.take j).map tickM)) := own_keep O3.out (fwx.alloc _) (fun y hy hm => by simp only [List.mem_singleton] at hm; have := (O.out.lt y hy).2; omega)
                have hnew : ∀ i u, ([.bool true, .int .i64 x.age, .int .i64 x.due] : List Value)[i]? = some u → (w3.alloc (.cells #[.bool true, .int .i64 x.age, .int .i64 x.due] 52)).cell? ((⟨w3.heap.size, 0, none⟩ : Addr).add i) = some u := by
                  intro i u hi
                  rw [Addr_add, Nat.zero_add]
                  have hrn := Row.new w3 [.bool true, .int .i64 x.age, .int .i64 x.due] 52
                  rw [hszx] at hrn
                  exact (hrn.cell i).trans hi
                have hst : (tickM x).cells = [.bool true, .int .i64 x.age, .int .i64 x.due] := by rw [tickM_cells x (x.age) (x.due) TA.out TU.out, HINN.out]
                have O4 := Lib.hid hO4
                have NW := Lib.hid hnew
                have ST := Lib.hid hst
                have F4 := Lib.hid (F3.out.trans (fwx.alloc (.cells #[.bool true, .int .i64 x.age, .int .i64 x.due] 52)) (by intro y hy; simp only [List.mem_singleton] at hy; exact .inr (by omega)) : Fr [] w1 (w3.alloc (.cells #[.bool true, .int .i64 x.age, .int .i64 x.due] 52)))
                have HSZ := Lib.hid hszx
                clear hO4 hnew hst hszx fwx
                go_wp2_with (at_builtin; refine wpList_append_own _ rfl _ _ 26 rfl w1.heap.size 52 i0 (.agg #[.bool false, .int .i64 0, .int .i64 0]) 3 24 Try.underlying26 HI.out HZ0.out HZ1.out HZ2.out rfl (by decide) _ _ _ rfl O4.out ⟨w3.heap.size, 0, none⟩ 1 1 [.bool true, .int .i64 x.age, .int .i64 x.due] rfl rfl NW.out (by simp [Value.oneCell']) ?c3 ?c4 ?c5 ?_)
                case c3 => unfold maxLen; omega
                case c4 => omega
                case c5 => first | omega | (simp; omega)
                intro v' w5 hown' hgrow _
                have hown2 : w5.ownsRow w1.heap.size 52 3 v' (j + 1) (mcells ((M.take (j + 1)).map tickM)) := by
                  rw [HT'.out, ST.out]
                  first | exact hown' | (rw [List.map_take]; exact hown')
                have hF5 : Fr [] w1 w5 := by
                  refine F4.out.trans (Fr.of_grown hgrow ((Value.ownBlock (.slice ao j co)).toList) (fun k hk => .inl (by simp [hk]))) ?_
                  intro k hk
                  simp only [Option.mem_toList] at hk
                  exact .inr (O4.out.lt k hk).1
                have O5 := Lib.hid hown2
                have F5 := Lib.hid hF5
                clear hown' hgrow hown2 hF5
                go_wp2_with fail
                go_roundg (n - (j + 1))
                case measure => omega
                case rel => exact ⟨j + 1, rfl, by omega, rfl, O5.out, HN'.out NZ.out, F5.out⟩
            · have dg0 : decide (x.age ≥ 0) = false := decide_eq_false hg0
              have TA := Lib.hid (show tickA x = x.age by unfold tickA; split <;> (try split) <;> omega)
              have hszx : w3.heap.size = w3.heap.size := by simp
              have fwx : Fr [wr.heap.size] w3 w3 := (Fr.refl _ w3)
              have hO4 : (w3.alloc (.cells #[.bool true, .int .i64 x.age, .int .i64 x.due] 52)).ownsRow w1.heap.size 52 3 (.slice ao j co) j (mcells ((M.take j).map tickM)) := own_keep O3.out (fwx.alloc _) (fun y hy hm => by simp only [List.mem_singleton] at hm; have := (O.out.lt y hy).2; omega)
              have hnew : ∀ i u, ([.bool true, .int .i64 x.age, .int .i64 x.due] : List Value)[i]? = some u → (w3.alloc (.cells #[.bool true, .int .i64 x.age, .int .i64 x.due] 52)).cell? ((⟨w3.heap.size, 0, none⟩ : Addr).add i) = some u := by
                intro i u hi
                rw [Addr_add, Nat.zero_add]
                have hrn := Row.new w3 [.bool true, .int .i64 x.age, .int .i64 x.due] 52
                rw [hszx] at hrn
                exact (hrn.cell i).trans hi
              have hst : (tickM x).cells = [.bool true, .int .i64 x.age, .int .i64 x.due] := by rw [tickM_cells x (x.age) (x.due) TA.out TU.out, HINN.out]
              have O4 := Lib.hid hO4
              have NW := Lib.hid hnew
              have ST := Lib.hid hst
              have F4 := Lib.hid (F3.out.trans (fwx.alloc (.cells #[.bool true, .int .i64 x.age, .int .i64 x.due] 52)) (by intro y hy; simp only [List.mem_singleton] at hy; exact .inr (by omega)) : Fr [] w1 (w3.alloc (.cells #[.bool true, .int .i64 x.age, .int .i64 x.due] 52)))
              have HSZ := Lib.hid hszx
              clear hO4 hnew hst hszx fwx
              go_wp2_with (at_builtin; refine wpList_append_own _ rfl _ _ 26 rfl w1.heap.size 52 i0 (.agg #[.bool false, .int .i64 0, .int .i64 0]) 3 24 Try.underlying26 HI.out HZ0.out HZ1.out HZ2.out rfl (by decide) _ _ _ rfl O4.out ⟨w3.heap.size, 0, none⟩ 1 1 [.bool true, .int .i64 x.age, .int .i64 x.due] rfl rfl NW.out (by simp [Value.oneCell']) ?c3 ?c4 ?c5 ?_)
              case c3 => unfold maxLen; omega
              case c4 => omega
              case c5 => first | omega | (simp; omega)
              intro v' w5 hown' hgrow _
              have hown2 : w5.ownsRow w1.heap.size 52 3 v' (j + 1) (mcells ((M.take (j + 1)).map tickM)) := by
                rw [HT'.out, ST.out]
                first | exact hown' | (rw [List.map_take]; exact hown')
              have hF5 : Fr [] w1 w5 := by
                refine F4.out.trans (Fr.of_grown hgrow ((Value.ownBlock (.slice ao j co)).toList) (fun k hk => .inl (by simp [hk]))) ?_
                intro k hk
                simp only [Option.mem_toList] at hk
                exact .inr (O4.out.lt k hk).1
              have O5 := Lib.hid hown2
              have F5 := Lib.hid hF5
              clear hown' hgrow hown2 hF5
              go_wp2_with fail
              go_roundg (n - (j + 1))
              case measure => omega
              case rel => exact ⟨j + 1, rfl, by omega, rfl, O5.out, HN'.out NZ.out, F5.out⟩
        · have d1 : decide (x.due > 0) = false := decide_eq_false h1
          have TU := Lib.hid (show tickU x = x.due by unfold tickU; rw [if_neg (fun h => h1 h.2.1)])
          clear hin h0
          by_cases hg0 : x.age ≥ 0
          · have dg0 : decide (x.age ≥ 0) = true := decide_eq_true hg0
            by_cases hg1 : x.age < 65536
            · have dg1 : decide (x.age < 65536) = true := decide_eq_true hg1
              have TA := Lib.hid (show tickA x = x.age + 1 by unfold tickA; split <;> (try split) <;> omega)
              have a0 : (w3.setCell ⟨wr.heap.size, 1, none⟩ (.int .i64 (x.age + 1))).cell? ⟨wr.heap.size, 0, none⟩ = some (.bool true) := by rw [← HINN.out]; exact (R3.out.setCell 1 (.int .i64 (x.age + 1))).cell 0
              have a1 : (w3.setCell ⟨wr.heap.size, 1, none⟩ (.int .i64 (x.age + 1))).cell? ⟨wr.heap.size, 1, none⟩ = some (.int .i64 (x.age + 1)) := (R3.out.setCell 1 (.int .i64 (x.age + 1))).cell 1
              have a2 : (w3.setCell ⟨wr.heap.size, 1, none⟩ (.int .i64 (x.age + 1))).cell? ⟨wr.heap.size, 2, none⟩ = some (.int .i64 x.due) := (R3.out.setCell 1 (.int .i64 (x.age + 1))).cell 2
              have a3 : (w3.setCell ⟨wr.heap.size, 1, none⟩ (.int .i64 (x.age + 1))).frozen? ⟨wr.heap.size, 2, none⟩ = false := (R3.out.setCell 1 (.int .i64 (x.age + 1))).frozen 2
              have hszx : (w3.setCell ⟨wr.heap.size, 1, none⟩ (.int .i64 (x.age + 1))).heap.size = w3.heap.size := by simp
              have fwx : Fr [wr.heap.size] w3 (w3.setCell ⟨wr.heap.size, 1, none⟩ (.int .i64 (x.age + 1))) := ((Fr.refl _ w3).setCell (p := ⟨wr.heap.size, 1, none⟩) (.inl (by simp)) _)
              have hO4 : ((w3.setCell ⟨wr.heap.size, 1, none⟩ (.int .i64 (x.age + 1))).alloc (.cells #[.bool true, .int .i64 (x.age + 1), .int .i64 x.due] 52)).ownsRow w1.heap.size 52 3 (.slice ao j co) j (mcells ((M.take j).map tickM)) := own_keep O3.out (fwx.alloc _) (fun y hy hm => by simp only [List.mem_singleton] at hm; have := (O.out.lt y hy).2; omega)
              have hnew : ∀ i u, ([.bool true, .int .i64 (x.age + 1), .int .i64 x.due] : List Value)[i]? = some u → ((w3.setCell ⟨wr.heap.size, 1, none⟩ (.int .i64 (x.age + 1))).alloc (.cells #[.bool true, .int .i64 (x.age + 1), .int .i64 x.due] 52)).cell? ((⟨w3.heap.size, 0, none⟩ : Addr).add i) = some u := by
                intro i u hi
                rw [Addr_add, Nat.zero_add]
                have hrn := Row.new (w3.setCell ⟨wr.heap.size, 1, none⟩ (.int .i64 (x.age + 1))) [.bool true, .int .i64 (x.age + 1), .int .i64 x.due] 52
                rw [hszx] at hrn
                exact (hrn.cell i).trans hi
              have hst : (tickM x).cells = [.bool true, .int .i64 (x.age + 1), .int .i64 x.due] := by rw [tickM_cells x ((x.age + 1)) (x.due) TA.out TU.out, HINN.out]
              have O4 := Lib.hid hO4
              have NW := Lib.hid hnew
              have ST := Lib.hid hst
              have F4 := Lib.hid (F3.out.trans (fwx.alloc (.cells #[.bool true, .int .i64 (x.age + 1), .int .i64 x.due] 52)) (by intro y hy; simp only [List.mem_singleton] at hy; exact .inr (by omega)) : Fr [] w1 ((w3.setCell ⟨wr.heap.size, 1, none⟩ (.int .i64 (x.age + 1))).alloc (.cells #[.bool true, .int .i64 (x.age + 1), .int .i64 x.due] 52)))
              have HSZ := Lib.hid hszx
              clear hO4 hnew hst hszx fwx
              go_wp2_with (at_builtin; refine wpList_append_own _ rfl _ _ 26 rfl w1.heap.size 52 i0 (.agg #[.bool false, .int .i64 0, .int .i64 0]) 3 24 Try.underlying26 HI.out HZ0.out HZ1.out HZ2.out rfl (by decide) _ _ _ rfl O4.out ⟨w3.heap.size, 0, none⟩ 1 1 [.bool true, .int .i64 (x.age + 1), .int .i64 x.due] rfl rfl NW.out (by simp [Value.oneCell']) ?c3 ?c4 ?c5 ?_)
              case c3 => unfold maxLen; omega
              case c4 => omega
              case c5 => first | omega | (simp; omega)
              intro v' w5 hown' hgrow _
              have hown2 : w5.ownsRow w1.heap.size 52 3 v' (j + 1) (mcells ((M.take (j + 1)).map tickM)) := by
                rw [HT'.out, ST.out]
                first | exact hown' | (rw [List.map_take]; exact hown')
              have hF5 : Fr [] w1 w5 := by
                refine F4.out.trans (Fr.of_grown hgrow ((Value.ownBlock (.slice ao j co)).toList) (fun k hk => .inl (by simp [hk]))) ?_
                intro k hk
                simp only [Option.mem_toList] at hk
                exact .inr (O4.out.lt k hk).1
              have O5 := Lib.hid hown2
              have F5 := Lib.hid hF5
              clear hown' hgrow hown2 hF5
              go_wp2_with fail
              go_roundg (n - (j + 1))
              case measure => omega
              case rel => exact ⟨j + 1, rfl, by omega, rfl, O5.out, HN'.out NZ.out, F5.out⟩
            · have dg1 : decide (x.age < 65536) = false := decide_eq_false hg1
              have TA := Lib.hid (show tickA x = x.age by unfold tickA; split <;> (try split) <;> omega)
              have hszx : w3.heap.size = w3.heap.size := by simp
              have fwx : Fr [wr.heap.size] w3 w3 := (Fr.refl _ w3)
              have hO4 : (w3.alloc (.cells #[.bool true, .int .i64 x.age, .int .i64 x.due] 52)).ownsRow w1.heap.size 52 3 (.slice ao j co) j (mcells ((M.take j).map tickM)) := own_keep O3.out (fwx.alloc _) (fun y hy hm => by simp only [List.mem_singleton] at hm; have := (O.out.lt y hy).2; omega)
              have hnew : ∀ i u, ([.bool true, .int .i64 x.age, .int .i64 x.due] : List Value)[i]? = some u → (w3.alloc (.cells #[.bool true, .int .i64 x.age, .int .i64 x.due] 52)).cell? ((⟨w3.heap.size, 0, none⟩ : Addr).add i) = some u := by
                intro i u hi
                rw [Addr_add, Nat.zero_add]
                have hrn := Row.new w3 [.bool true, .int .i64 x.age, .int .i64 x.due] 52
                rw [hszx] at hrn
                exact (hrn.cell i).trans hi
              have hst : (tickM x).cells = [.bool true, .int .i64 x.age, .int .i64 x.due] := by rw [tickM_cells x (x.age) (x.due) TA.out TU.out, HINN.out]
              have O4 := Lib.hid hO4
              have NW := Lib.hid hnew
              have ST := Lib.hid hst
              have F4 := Lib.hid (F3.out.trans (fwx.alloc (.cells #[.bool true, .int .i64 x.age, .int .i64 x.due] 52)) (by intro y hy; simp only [List.mem_singleton] at hy; exact .inr (by omega)) : Fr [] w1 (w3.alloc (.cells #[.bool true, .int .i64 x.age, .int .i64 x.due] 52)))
              have HSZ := Lib.hid hszx
              clear hO4 hnew hst hszx fwx
              go_wp2_with (at_builtin; refine wpList_append_own _ rfl _ _ 26 rfl w1.heap.size 52 i0 (.agg #[.bool false, .int .i64 0, .int .i64 0]) 3 24 Try.underlying26 HI.out HZ0.out HZ1.out HZ2.out rfl (by decide) _ _ _ rfl O4.out ⟨w3.heap.size, 0, none⟩ 1 1 [.bool true, .int .i64 x.age, .int .i64 x.due] rfl rfl NW.out (by simp [Value.oneCell']) ?c3 ?c4 ?c5 ?_)
              case c3 => unfold maxLen; omega
              case c4 => omega
              case c5 => first | omega | (simp; omega)
              intro v' w5 hown' hgrow _
              have hown2 : w5.ownsRow w1.heap.size 52 3 v' (j + 1) (mcells ((M.take (j + 1)).map tickM)) := by
                rw [HT'.out, ST.out]
                first | exact hown' | (rw [List.map_take]; exact hown')
              have hF5 : Fr [] w1 w5 := by
                refine F4.out.trans (Fr.of_grown hgrow ((Value.ownBlock (.slice ao j co)).toList) (fun k hk => .inl (by simp [hk]))) ?_
                intro k hk
                simp only [Option.mem_toList] at hk
                exact .inr (O4.out.lt k hk).1
              have O5 := Lib.hid hown2
              have F5 := Lib.hid hF5
              clear hown' hgrow hown2 hF5
              go_wp2_with fail
              go_roundg (n - (j + 1))
              case measure => omega
              case rel => exact ⟨j + 1, rfl, by omega, rfl, O5.out, HN'.out NZ.out, F5.out⟩
          · have dg0 : decide (x.age ≥ 0) = false := decide_eq_false hg0
            have TA := Lib.hid (show tickA x = x.age by unfold tickA; split <;> (try split) <;> omega)
            have hszx : w3.heap.size = w3.heap.size := by simp
            have fwx : Fr [wr.heap.size] w3 w3 := (Fr.refl _ w3)
            have hO4 : (w3.alloc (.cells #[.bool true, .int .i64 x.age, .int .i64 x.due] 52)).ownsRow w1.heap.size 52 3 (.slice ao j co) j (mcells ((M.take j).map tickM)) := own_keep O3.out (fwx.alloc _) (fun y hy hm => by simp only [List.mem_singleton] at hm; have := (O.out.lt y hy).2; omega)
            have hnew : ∀ i u, ([.bool true, .int .i64 x.age, .int .i64 x.due] : List Value)[i]? = some u → (w3.alloc (.cells #[.bool true, .int .i64 x.age, .int .i64 x.due] 52)).cell? ((⟨w3.heap.size, 0, none⟩ : Addr).add i) = some u := by
              intro i u hi
              rw [Addr_add, Nat.zero_add]
              have hrn := Row.new w3 [.bool true, .int .i64 x.age, .int .i64 x.due] 52
              rw [hszx] at hrn
              exact (hrn.cell i).trans hi
            have hst : (tickM x).cells = [.bool true, .int .i64 x.age, .int .i64 x.due] := by rw [tickM_cells x (x.age) (x.due) TA.out TU.out, HINN.out]
            have O4 := Lib.hid hO4
            have NW := Lib.hid hnew
            have ST := Lib.hid hst
            have F4 := Lib.hid (F3.out.trans (fwx.alloc (.cells #[.bool true, .int .i64 x.age, .int .i64 x.due] 52)) (by intro y hy; simp only [List.mem_singleton] at hy; exact .inr (by omega)) : Fr [] w1 (w3.alloc (.cells #[.bool true, .int .i64 x.age, .int .i64 x.due] 52)))
            have HSZ := Lib.hid hszx
            clear hO4 hnew hst hszx fwx
            go_wp2_with (at_builtin; refine wpList_append_own _ rfl _ _ 26 rfl w1.heap.size 52 i0 (.agg #[.bool false, .int .i64 0, .int .i64 0]) 3 24 Try.underlying26 HI.out HZ0.out HZ1.out HZ2.out rfl (by decide) _ _ _ rfl O4.out ⟨w3.heap.size, 0, none⟩ 1 1 [.bool true, .int .i64 x.age, .int .i64 x.due] rfl rfl NW.out (by simp [Value.oneCell']) ?c3 ?c4 ?c5 ?_)
            case c3 => unfold maxLen; omega
            case c4 => omega
            case c5 => first | omega | (simp; omega)
            intro v' w5 hown' hgrow _
            have hown2 : w5.ownsRow w1.heap.size 52 3 v' (j + 1) (mcells ((M.take (j + 1)).map tickM)) := by
              rw [HT'.out, ST.out]
              first | exact hown' | (rw [List.map_take]; exact hown')
            have hF5 : Fr [] w1 w5 := by
              refine F4.out.trans (Fr.of_grown hgrow ((Value.ownBlock (.slice ao j co)).toList) (fun k hk => .inl (by simp [hk]))) ?_
              intro k hk
              simp only [Option.mem_toList] at hk
              exact .inr (O4.out.lt k hk).1
            have O5 := Lib.hid hown2
            have F5 := Lib.hid hF5
            clear hown' hgrow hown2 hF5
            go_wp2_with fail
            go_roundg (n - (j + 1))
            case measure => omega
            case rel => exact ⟨j + 1, rfl, by omega, rfl, O5.out, HN'.out NZ.out, F5.out⟩
    · have hd : decide (j < n) = false := by rw [decide_eq_false_iff_not]; omega
      obtain rfl : n = j := by omega
      have hfull : M.take n = M := List.take_of_length_le (by rw [HL.out]; omega)
      rw [hfull] at O HND
      have HE := Lib.hid (tickE_go HFIT.out HND.out)
      clear hfull
      go_wp2_with fail
      go_ret2
      rw [HE.out]
      exact next_own (by rw [List.length_map, HL.out]) O.out FW.out
end Go.Proofs.Ytclkahggfdnpgaa