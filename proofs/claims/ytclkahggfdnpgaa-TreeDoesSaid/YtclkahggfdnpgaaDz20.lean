/- Parts of the proof: Rt3. (Merged by pack.py.) -/
import Derived.Test.YtclkahggfdnpgaaDz16
import Derived.Test.YtclkahggfdnpgaaDz19
set_option linter.unusedVariables false
set_option linter.unusedSimpArgs false
namespace Go.Proofs.Ytclkahggfdnpgaa
open Go.RowKit
theorem live_le (L : List RND) (j : Nat) : (liveN L j).length ≤ j := by
  unfold liveN
  have := List.length_filterMap_le (fun i => if (L.getD i default).lives then some ((L.getD i default).pi i) else none) (List.range j)
  rw [List.length_range] at this
  exact this
def rlive (L : List RND) (j : Nat) : List Int := (liveN L j).map (·.id)
theorem rlive_le (L : List RND) (j : Nat) : (rlive L j).length ≤ j := by
  unfold rlive
  rw [List.length_map]
  exact live_le L j
theorem rlive_succ (L : List RND) (j : Nat) : rlive L (j + 1) = rlive L j ++ (if (L.getD j default).lives then [(j : Int)] else []) := by
  unfold rlive
  rw [liveN_succ, List.map_append]
  congr 1
  generalize L.getD j default = x
  cases h1 : x.lives
  · simp
  · simp [RND.pi]
set_option maxHeartbeats 4000000 in
set_option maxRecDepth 100000 in
theorem rlive_any (rb : Nat) (R : RefD) (w : World) (h : RefAt w rb R) : Calls Try.prog 49 #[.pointer (some ⟨rb, 0, none⟩)] w (IntsP (R.pl.L.map (·.id)) w) := by
  obtain ⟨i0, hi0, hz0, hz1, hz2⟩ := info_parts infoInt
  have HI := Lib.hid hi0
  have HZ0 := Lib.hid hz0
  have HZ1 := Lib.hid hz1
  have HZ2 := Lib.hid hz2
  clear hi0 hz0 hz1 hz2
  obtain ⟨a, c, hv⟩ := h.lvform
  have r2 : w.cell? ⟨rb, 2, none⟩ = some (.slice a R.L.length c) := by rw [← hv]; exact h.head.cell 2
  have HH := Lib.hid h
  have HV := Lib.hid hv
  have hfew := h.few
  have HFU := Lib.hid (show rlive R.L R.L.length = R.pl.L.map (·.id) from rfl)
  obtain ⟨n, hn⟩ : ∃ n, n = R.L.length := ⟨_, rfl⟩
  rw [← hn] at r2 hfew HFU
  have HN := Lib.hid hn
  have R2 := Lib.hid r2
  have HW := Lib.hid (own_empty w 3 1)
  have FA := Lib.hid ((Fr.refl [] w).alloc (.cells #[] 3))
  clear h hv hn r2
  go_enter Try.func49, Try.ntmps49
  go_wp2_with fail
  obtain ⟨wA, hwA⟩ : ∃ v, w.alloc (.cells #[] 3) = v := ⟨_, rfl⟩
  rw [hwA] at HW FA ⊢
  clear hwA
  go_loopg [3, 4] n (fun k v i wr => ∃ (j : Nat), k = n - j ∧ j ≤ n ∧ i = .int .i64 j ∧ wr.ownsRow w.heap.size 3 1 v (rlive R.L j).length ((rlive R.L j).map iv) ∧ Fr [] w wr)
  case atStart => exact ⟨0, rfl, by omega, rfl, HW.out, FA.out⟩
  case round =>
    obtain ⟨j, rfl, hj, rfl, hO, hF⟩ := hrel
    obtain ⟨b, d, rfl⟩ := own_slice hO
    have O := Lib.hid hO
    have F := Lib.hid hF
    have hll := rlive_le R.L j
    have hws : w.heap.size ≤ wr.heap.size := hF.size
    have LS := Lib.hid (rlive_succ R.L j)
    have r2 := cell_fr' R2.out hF
    clear hO hF
    by_cases hjn : j < n
    · have hd : decide (j < n) = true := by rw [decide_eq_true_iff]; omega
      obtain ⟨g, c2, hv2, _, hg, hc⟩ := (HH.out.fr F.out).node (i := j) (by rw [← HN.out]; exact hjn)
      rw [HV.out] at hv2
      simp only [Value.slice.injEq] at hv2
      obtain ⟨rfl, _, rfl⟩ := hv2
      obtain ⟨x, hx⟩ : ∃ x, R.L.getD j default = x := ⟨_, rfl⟩
      rw [hx] at hc LS
      have x0 : wr.cell? ⟨g, j * 5, none⟩ = some (.bool x.lives) := hc 0 _ rfl
      obtain ⟨lb, hlb⟩ : ∃ b, x.lives = b := ⟨_, rfl⟩
      rw [hlb] at x0 LS
      clear hc hx hlb
      cases lb
      · have LS2 := Lib.hid (show rlive R.L (j + 1) = rlive R.L j by rw [LS.out]; simp)
        go_wp2_with fail
        go_roundg (n - (j + 1))
        case measure => omega
        case rel => exact ⟨j + 1, rfl, by omega, rfl, by rw [LS2.out]; exact O.out, F.out⟩
      · have LS2 := Lib.hid (show rlive R.L (j + 1) = rlive R.L j ++ [(j : Int)] by rw [LS.out]; simp)
        have hll2 : (rlive R.L j).length ≤ 900 := by omega
        have hO4 : (wr.alloc (.cells #[.int .i64 j] 3)).ownsRow w.heap.size 3 1 (.slice b (rlive R.L j).length d) (rlive R.L j).length ((rlive R.L j).map iv) := own_fr O.out ((Fr.refl [] wr).alloc _)
        have hnew : ∀ i u, ([.int .i64 (j : Int)] : List Value)[i]? = some u → (wr.alloc (.cells #[.int .i64 j] 3)).cell? ((⟨wr.heap.size, 0, none⟩ : Addr).add i) = some u := by
          intro i u hi
          rw [Addr_add, Nat.zero_add]
          exact ((Row.new wr [.int .i64 j] 3).cell i).trans hi
        have O4 := Lib.hid hO4
        have NW := Lib.hid hnew
        obtain ⟨N, hN⟩ : ∃ N, rlive R.L j = N := ⟨_, rfl⟩
        rw [hN] at O4 LS2 hll2 ⊢
        clear hO4 hnew hN hll
        go_wp2_with (at_builtin; refine wpList_append_own _ rfl _ _ 33 rfl w.heap.size 3 i0 (.int .i64 0) 1 8 Try.underlying33 HI.out HZ0.out HZ1.out HZ2.out rfl (by decide) _ _ _ rfl O4.out ⟨wr.heap.size, 0, none⟩ 1 1 [.int .i64 (j : Int)] rfl rfl NW.out (by simp [Value.oneCell']) ?c3 ?c4 ?c5 ?_)
        case c3 => unfold maxLen; omega
        case c4 => omega
        case c5 => first | omega | (simp; omega)
        intro v' w5 hown' hgrow _
        have hown2 : w5.ownsRow w.heap.size 3 1 v' (rlive R.L (j + 1)).length ((rlive R.L (j + 1)).map iv) := by
          rw [LS2.out, List.length_append, List.map_append]
          exact hown'
        have hF5 : Fr [] w w5 := by
          refine (F.out.alloc (.cells #[.int .i64 j] 3)).trans (Fr.of_grown hgrow ((Value.ownBlock (.slice b N.length d)).toList) (fun k hk => .inl (by simp [hk]))) ?_
          intro k hk
          simp only [Option.mem_toList] at hk
          exact .inr (O4.out.lt k hk).1
        have O5 := Lib.hid hown2
        have F5 := Lib.hid hF5
        clear hown' hgrow hown2 hF5
        go_wp2_with fail
        go_roundg (n - (j + 1))
        case measure => omega
        case rel => exact ⟨j + 1, rfl, by omega, rfl, O5.out, F5.out⟩
    · have hd : decide (j < n) = false := by rw [decide_eq_false_iff_not]; omega
      obtain rfl : j = n := by omega
      go_wp2_with fail
      go_ret
      exact ⟨_, rfl, by rw [← HFU.out]; exact O.out, F.out⟩
def rkids (L : List RND) (id at' : Int) (j : Nat) : List Int := ((liveN L j).filter (PI.kid id at')).map (·.id)
theorem rkids_le (L : List RND) (id at' : Int) (j : Nat) : (rkids L id at' j).length ≤ j := by
  unfold rkids
  rw [List.length_map]
  exact Nat.le_trans (List.length_filter_le _ _) (live_le L j)
theorem rkids_succ (L : List RND) (id at' : Int) (j : Nat) : rkids L id at' (j + 1) = rkids L id at' j ++ (if (L.getD j default).lives && PI.kid id at' ((L.getD j default).pi j) then [(j : Int)] else []) := by
  unfold rkids
  rw [liveN_succ, List.filter_append, List.map_append]
  congr 1
  generalize L.getD j default = x
  cases h1 : x.lives
  · simp
  · cases h2 : PI.kid id at' (x.pi j)
    · simp [List.filter_cons, h2]
    · simp only [Bool.and_self, if_true]
      rw [List.filter_cons, if_pos h2]
      rfl
set_option maxHeartbeats 4000000 in
set_option maxRecDepth 100000 in
theorem rkids_any (rb : Nat) (R : RefD) (id at' : Int) (w : World) (h : RefAt w rb R) : Calls Try.prog 51 #[.pointer (some ⟨rb, 0, none⟩), .int .i64 id, .int .i64 at'] w (IntsP ((R.pl.kids id at').map (·.id)) w) := by
  obtain ⟨i0, hi0, hz0, hz1, hz2⟩ := info_parts infoInt
  have HI := Lib.hid hi0
  have HZ0 := Lib.hid hz0
  have HZ1 := Lib.hid hz1
  have HZ2 := Lib.hid hz2
  clear hi0 hz0 hz1 hz2
  obtain ⟨a, c, hv⟩ := h.lvform
  have r2 : w.cell? ⟨rb, 2, none⟩ = some (.slice a R.L.length c) := by rw [← hv]; exact h.head.cell 2
  have HH := Lib.hid h
  have HV := Lib.hid hv
  have hfew := h.few
  have HFU := Lib.hid (show rkids R.L id at' R.L.length = (R.pl.kids id at').map (·.id) from rfl)
  obtain ⟨n, hn⟩ : ∃ n, n = R.L.length := ⟨_, rfl⟩
  rw [← hn] at r2 hfew HFU
  have HN := Lib.hid hn
  have R2 := Lib.hid r2
  have HW := Lib.hid (own_empty w 3 1)
  have FA := Lib.hid ((Fr.refl [] w).alloc (.cells #[] 3))
  clear h hv hn r2
  go_enter Try.func51, Try.ntmps51
  go_wp2_with fail
  obtain ⟨wA, hwA⟩ : ∃ v, w.alloc (.cells #[] 3) = v := ⟨_, rfl⟩
  rw [hwA] at HW FA ⊢
  clear hwA
  go_loopg [7, 8] n (fun k v i wr => ∃ (j : Nat), k = n - j ∧ j ≤ n ∧ i = .int .i64 j ∧ wr.ownsRow w.heap.size 3 1 v (rkids R.L id at' j).length ((rkids R.L id at' j).map iv) ∧ Fr [] w wr)
  case atStart => exact ⟨0, rfl, by omega, rfl, HW.out, FA.out⟩
  case round =>
    obtain ⟨j, rfl, hj, rfl, hO, hF⟩ := hrel
    obtain ⟨b, d, rfl⟩ := own_slice hO
    have O := Lib.hid hO
    have F := Lib.hid hF
    have hll := rkids_le R.L id at' j
    have hws : w.heap.size ≤ wr.heap.size := hF.size
    have LS := Lib.hid (rkids_succ R.L id at' j)
    have r2 := cell_fr' R2.out hF
    clear hO hF
    by_cases hjn : j < n
    · have hd : decide (j < n) = true := by rw [decide_eq_true_iff]; omega
      obtain ⟨g, c2, hv2, _, hg, hc⟩ := (HH.out.fr F.out).node (i := j) (by rw [← HN.out]; exact hjn)
      rw [HV.out] at hv2
      simp only [Value.slice.injEq] at hv2
      obtain ⟨rfl, _, rfl⟩ := hv2
      obtain ⟨x, hx⟩ : ∃ x, R.L.getD j default = x := ⟨_, rfl⟩
      rw [hx] at hc LS
      have x0 : wr.cell? ⟨g, j * 5, none⟩ = some (.bool x.lives) := hc 0 _ rfl
      have x2 : wr.cell? ⟨g, j * 5 + 2, none⟩ = some (.int .i64 x.par) := hc 2 _ rfl
      have x3 : wr.cell? ⟨g, j * 5 + 3, none⟩ = some (.int .i64 x.ev) := hc 3 _ rfl
      have KD := Lib.hid (show PI.kid id at' (x.pi j) = (decide (x.par = id) && decide (id ≥ 0) && (decide (at' < 0) || decide (x.ev = at'))) from rfl)
      obtain ⟨lb, hlb⟩ : ∃ b, x.lives = b := ⟨_, rfl⟩
      rw [hlb] at x0 LS
      obtain ⟨xp, hxp⟩ : ∃ b, x.par = b := ⟨_, rfl⟩
      rw [hxp] at x2 KD
      obtain ⟨xe, hxe⟩ : ∃ b, x.ev = b := ⟨_, rfl⟩
      rw [hxe] at x3 KD
      clear hc hx hlb hxp hxe
      cases lb
      · have LS2 := Lib.hid (show rkids R.L id at' (j + 1) = rkids R.L id at' j by rw [LS.out]; simp)
        go_wp2_with fail
        go_roundg (n - (j + 1))
        case measure => omega
        case rel => exact ⟨j + 1, rfl, by omega, rfl, by rw [LS2.out]; exact O.out, F.out⟩
      by_cases h1 : id ≥ 0
      rotate_left
      · have d1 : decide (id ≥ 0) = false := decide_eq_false h1
        have LS2 := Lib.hid (show rkids R.L id at' (j + 1) = rkids R.L id at' j by rw [LS.out, KD.out, d1]; simp)
        clear h1
        go_wp2_with fail
        go_roundg (n - (j + 1))
        case measure => omega
        case rel => exact ⟨j + 1, rfl, by omega, rfl, by rw [LS2.out]; exact O.out, F.out⟩
      have d1 : decide (id ≥ 0) = true := decide_eq_true h1
      by_cases h2 : xp = id
      rotate_left
      · have d2 : (xp == id) = false := by simpa using h2
        have LS2 := Lib.hid (show rkids R.L id at' (j + 1) = rkids R.L id at' j by rw [LS.out, KD.out, decide_eq_false h2]; simp)
        clear h1 h2
        go_wp2_with fail
        go_roundg (n - (j + 1))
        case measure => omega
        case rel => exact ⟨j + 1, rfl, by omega, rfl, by rw [LS2.out]; exact O.out, F.out⟩
      have d2 : (xp == id) = true := by simpa using h2
      by_cases h3 : at' < 0
      · have d3 : decide (at' < 0) = true := decide_eq_true h3
        have LS2 := Lib.hid (show rkids R.L id at' (j + 1) = rkids R.L id at' j ++ [(j : Int)] by rw [LS.out, KD.out, decide_eq_true h2, d1, d3]; simp)
        clear h1 h2 h3
        have hll2 : (rkids R.L id at' j).length ≤ 900 := by omega
        have hO4 : (wr.alloc (.cells #[.int .i64 j] 3)).ownsRow w.heap.size 3 1 (.slice b (rkids R.L id at' j).length d) (rkids R.L id at' j).length ((rkids R.L id at' j).map iv) := own_fr O.out ((Fr.refl [] wr).alloc _)
        have hnew : ∀ i u, ([.int .i64 (j : Int)] : List Value)[i]? = some u → (wr.alloc (.cells #[.int .i64 j] 3)).cell? ((⟨wr.heap.size, 0, none⟩ : Addr).add i) = some u := by
          intro i u hi
          rw [Addr_add, Nat.zero_add]
          exact ((Row.new wr [.int .i64 j] 3).cell i).trans hi
        have O4 := Lib.hid hO4
        have NW := Lib.hid hnew
        obtain ⟨N, hN⟩ : ∃ N, rkids R.L id at' j = N := ⟨_, rfl⟩
        rw [hN] at O4 LS2 hll2 ⊢
        clear hO4 hnew hN hll
        go_wp2_with (at_builtin; refine wpList_append_own _ rfl _ _ 33 rfl w.heap.size 3 i0 (.int .i64 0) 1 8 Try.underlying33 HI.out HZ0.out HZ1.out HZ2.out rfl (by decide) _ _ _ rfl O4.out ⟨wr.heap.size, 0, none⟩ 1 1 [.int .i64 (j : Int)] rfl rfl NW.out (by simp [Value.oneCell']) ?e31 ?e41 ?e51 ?_)
        case e31 => unfold maxLen; omega
        case e41 => omega
        case e51 => first | omega | (simp; omega)
        intro v' w5 hown' hgrow _
        have hown2 : w5.ownsRow w.heap.size 3 1 v' (rkids R.L id at' (j + 1)).length ((rkids R.L id at' (j + 1)).map iv) := by
          rw [LS2.out, List.length_append, List.map_append]
          exact hown'
        have hF5 : Fr [] w w5 := by
          refine (F.out.alloc (.cells #[.int .i64 j] 3)).trans (Fr.of_grown hgrow ((Value.ownBlock (.slice b N.length d)).toList) (fun k hk => .inl (by simp [hk]))) ?_
          intro k hk
          simp only [Option.mem_toList] at hk
          exact .inr (O4.out.lt k hk).1
        have O5 := Lib.hid hown2
        have F5 := Lib.hid hF5
        clear hown' hgrow hown2 hF5
        go_wp2_with fail
        go_roundg (n - (j + 1))
        case measure => omega
        case rel => exact ⟨j + 1, rfl, by omega, rfl, O5.out, F5.out⟩
      have d3 : decide (at' < 0) = false := decide_eq_false h3
      by_cases h4 : xe = at'
      · have d4 : (xe == at') = true := by simpa using h4
        have LS2 := Lib.hid (show rkids R.L id at' (j + 1) = rkids R.L id at' j ++ [(j : Int)] by rw [LS.out, KD.out, decide_eq_true h2, d1, d3, decide_eq_true h4]; simp)
        clear h1 h2 h3 h4
        have hll2 : (rkids R.L id at' j).length ≤ 900 := by omega
        have hO4 : (wr.alloc (.cells #[.int .i64 j] 3)).ownsRow w.heap.size 3 1 (.slice b (rkids R.L id at' j).length d) (rkids R.L id at' j).length ((rkids R.L id at' j).map iv) := own_fr O.out ((Fr.refl [] wr).alloc _)
        have hnew : ∀ i u, ([.int .i64 (j : Int)] : List Value)[i]? = some u → (wr.alloc (.cells #[.int .i64 j] 3)).cell? ((⟨wr.heap.size, 0, none⟩ : Addr).add i) = some u := by
          intro i u hi
          rw [Addr_add, Nat.zero_add]
          exact ((Row.new wr [.int .i64 j] 3).cell i).trans hi
        have O4 := Lib.hid hO4
        have NW := Lib.hid hnew
        obtain ⟨N, hN⟩ : ∃ N, rkids R.L id at' j = N := ⟨_, rfl⟩
        rw [hN] at O4 LS2 hll2 ⊢
        clear hO4 hnew hN hll
        go_wp2_with (at_builtin; refine wpList_append_own _ rfl _ _ 33 rfl w.heap.size 3 i0 (.int .i64 0) 1 8 Try.underlying33 HI.out HZ0.out HZ1.out HZ2.out rfl (by decide) _ _ _ rfl O4.out ⟨wr.heap.size, 0, none⟩ 1 1 [.int .i64 (j : Int)] rfl rfl NW.out (by simp [Value.oneCell']) ?e32 ?e42 ?e52 ?_)
        case e32 => unfold maxLen; omega
        case e42 => omega
        case e52 => first | omega | (simp; omega)
        intro v' w5 hown' hgrow _
        have hown2 : w5.ownsRow w.heap.size 3 1 v' (rkids R.L id at' (j + 1)).length ((rkids R.L id at' (j + 1)).map iv) := by
          rw [LS2.out, List.length_append, List.map_append]
          exact hown'
        have hF5 : Fr [] w w5 := by
          refine (F.out.alloc (.cells #[.int .i64 j] 3)).trans (Fr.of_grown hgrow ((Value.ownBlock (.slice b N.length d)).toList) (fun k hk => .inl (by simp [hk]))) ?_
          intro k hk
          simp only [Option.mem_toList] at hk
          exact .inr (O4.out.lt k hk).1
        have O5 := Lib.hid hown2
        have F5 := Lib.hid hF5
        clear hown' hgrow hown2 hF5
        go_wp2_with fail
        go_roundg (n - (j + 1))
        case measure => omega
        case rel => exact ⟨j + 1, rfl, by omega, rfl, O5.out, F5.out⟩
      · have d4 : (xe == at') = false := by simpa using h4
        have LS2 := Lib.hid (show rkids R.L id at' (j + 1) = rkids R.L id at' j by rw [LS.out, KD.out, d3, decide_eq_false h4]; simp)
        clear h1 h2 h3 h4
        go_wp2_with fail
        go_roundg (n - (j + 1))
        case measure => omega
        case rel => exact ⟨j + 1, rfl, by omega, rfl, by rw [LS2.out]; exact O.out, F.out⟩
    · have hd : decide (j < n) = false := by rw [decide_eq_false_iff_not]; omega
      obtain rfl : j = n := by omega
      go_wp2_with fail
      go_ret
      exact ⟨_, rfl, by rw [← HFU.out]; exact O.out, F.out⟩
end Go.Proofs.Ytclkahggfdnpgaa
