/- Parts of the proof: Tr3, Tr4, Tr5, Mk14, Mk17. (Merged by pack.py.) -/
import Derived.Test.YtclkahggfdnpgaaDz5
import Derived.Lib.SliceRun
import Derived.OwnWalk
import Derived.Deep.RegionHeldLaw
import Derived.Test.YtclkahggfdnpgaaDz3
set_option linter.unusedVariables false
set_option linter.unusedSimpArgs false
namespace Go.Proofs.Ytclkahggfdnpgaa
open Go.RowKit
def iv (k : Int) : Value := .int .i64 k
/-- A list of numbers, told in a row of its own. -/
def IntsP (L : List Int) (w : World) (e : Ending) (w' : World) : Prop := ∃ v, e = .returned v ∧ w'.ownsRow w.heap.size 3 1 v L.length (L.map iv) ∧ Fr [] w w'
def liveL (L : List InsD) (j : Nat) : List Int := (L.take j).map (·.id)
theorem liveL_le (L : List InsD) (j : Nat) : (liveL L j).length ≤ j := by unfold liveL; simp; omega
theorem liveL_succ (L : List InsD) (j : Nat) (h : j < L.length) : liveL L (j + 1) = liveL L j ++ [(L.getD j default).id] := by unfold liveL; rw [take_succD L j h, List.map_append]; rfl
def isKid (id at' : Int) (x : InsD) : Bool := decide (x.par = id) && decide (id ≥ 0) && (decide (at' < 0) || decide (x.ev = at'))
def kidsL (L : List InsD) (id at' : Int) (j : Nat) : List Int := ((L.take j).filter (isKid id at')).map (·.id)
theorem kidsL_le (L : List InsD) (id at' : Int) (j : Nat) : (kidsL L id at' j).length ≤ j := by
  unfold kidsL
  rw [List.length_map]
  have h1 := List.length_filter_le (isKid id at') (L.take j)
  have h2 := List.length_take_le j L
  omega
theorem kidsL_yes (L : List InsD) (id at' : Int) (j : Nat) (h : j < L.length) (hk : isKid id at' (L.getD j default) = true) : kidsL L id at' (j + 1) = kidsL L id at' j ++ [(L.getD j default).id] := by
  unfold kidsL; rw [take_succD L j h, List.filter_append, List.map_append]; generalize L.getD j default = x at hk ⊢; simp [hk]
theorem kidsL_no (L : List InsD) (id at' : Int) (j : Nat) (h : j < L.length) (hk : isKid id at' (L.getD j default) = false) : kidsL L id at' (j + 1) = kidsL L id at' j := by
  unfold kidsL; rw [take_succD L j h, List.filter_append, List.map_append]; generalize L.getD j default = x at hk ⊢; simp [hk]
set_option maxHeartbeats 1000000 in
theorem live_any (tb hi : Nat) (T : TreeD) (w : World) (h : TreeAt w tb hi T) : Calls Try.prog 48 #[.pointer (some ⟨tb, 0, none⟩)] w (IntsP (T.L.map (·.id)) w) := by
  obtain ⟨i0, hi0, hz0, hz1, hz2⟩ := info_parts infoInt
  have HI := Lib.hid hi0
  have HZ0 := Lib.hid hz0
  have HZ1 := Lib.hid hz1
  have HZ2 := Lib.hid hz2
  clear hi0 hz0 hz1 hz2
  have hc2 : w.cell? ⟨tb, 2, none⟩ = some T.v := h.head.cell 2
  obtain ⟨a, c, hv, hlc, hp⟩ := h.vform
  have hfew := h.few
  have HH := Lib.hid h
  rw [hv] at hc2
  have HFU := Lib.hid (show liveL T.L T.L.length = T.L.map (·.id) by unfold liveL; rw [List.take_length])
  have HS := Lib.hid (fun j => liveL_succ T.L j)
  have HLE := Lib.hid (fun j => liveL_le T.L j)
  generalize hn : T.L.length = n at hc2 hlc hp hfew HFU HS
  have HN := Lib.hid hn
  have HP := Lib.hid hp
  have HW := Lib.hid (World.ownsRow_nil w w.heap.size 3 1)
  clear h hv hp hn
  go_enter Try.func48, Try.ntmps48
  go_wp2_with fail
  go_loopg [3, 11] n (fun k v i wr => ∃ (j : Nat), k = n - j ∧ j ≤ n ∧ i = .int .i64 j ∧ wr.ownsRow w.heap.size 3 1 v (liveL T.L j).length ((liveL T.L j).map iv) ∧ Fr [] w wr)
  case atStart => exact ⟨0, rfl, by omega, rfl, HW.out, Fr.refl _ _⟩
  case round =>
    obtain ⟨j, rfl, hj, rfl, hO, hF⟩ := hrel
    obtain ⟨b, d, rfl⟩ := own_slice hO
    have O := Lib.hid hO
    have F := Lib.hid hF
    have hll := HLE.out j
    have hws : w.heap.size ≤ wr.heap.size := hF.size
    clear hO hF
    by_cases hjn : j < n
    · have hd : decide (j < n) = true := by rw [decide_eq_true_iff]; omega
      have HY := Lib.hid (HS.out j hjn)
      obtain ⟨g, rfl, hc0, _, hg⟩ := HP.out j hjn
      have hm := getD_memD T.L j (by rw [HN.out]; exact hjn)
      have hc : wr.cell? ⟨g, j, none⟩ = some (T.L.getD j default).ptr := by rw [World.cell?_of_block (F.out.block g hg (by simp))]; exact hc0
      have hx0 : wr.cell? ⟨(T.L.getD j default).b, 0, none⟩ = some (.int .i64 (T.L.getD j default).id) := ((HH.out.ins _ hm).fr F.out (by simp)).cell 0
      obtain ⟨x, hx⟩ : ∃ x, T.L.getD j default = x := ⟨_, rfl⟩
      rw [hx] at hc hx0
      unfold InsD.ptr at hc
      have HX := Lib.hid hx
      clear hc0 hm hx
      have hO4 : (wr.alloc (.cells #[.int .i64 x.id] 3)).ownsRow w.heap.size 3 1 (.slice b (liveL T.L j).length d) (liveL T.L j).length ((liveL T.L j).map iv) := own_fr O.out ((Fr.refl [] wr).alloc _)
      have hnew : ∀ i u, ([.int .i64 x.id] : List Value)[i]? = some u → (wr.alloc (.cells #[.int .i64 x.id] 3)).cell? ((⟨wr.heap.size, 0, none⟩ : Addr).add i) = some u := by
        intro i u hi
        rw [Addr_add, Nat.zero_add]
        exact ((Row.new wr [.int .i64 x.id] 3).cell i).trans hi
      have O4 := Lib.hid hO4
      have NW := Lib.hid hnew
      clear hO4 hnew
      go_wp2_with (at_builtin; refine wpList_append_own _ rfl _ _ 33 rfl w.heap.size 3 i0 (.int .i64 0) 1 8 Try.underlying33 HI.out HZ0.out HZ1.out HZ2.out rfl (by decide) _ _ _ rfl O4.out ⟨wr.heap.size, 0, none⟩ 1 1 [.int .i64 x.id] rfl rfl NW.out (by simp [Value.oneCell']) ?c3 ?c4 ?c5 ?_)
      case c3 => unfold maxLen; omega
      case c4 => omega
      case c5 => first | omega | (simp; omega)
      intro v' w5 hown' hgrow _
      have hown2 : w5.ownsRow w.heap.size 3 1 v' (liveL T.L (j + 1)).length ((liveL T.L (j + 1)).map iv) := by
        rw [HY.out, HX.out, List.length_append, List.map_append]
        exact hown'
      have hF5 : Fr [] w w5 := by
        refine (F.out.alloc (.cells #[.int .i64 x.id] 3)).trans (Fr.of_grown hgrow ((Value.ownBlock (.slice b (liveL T.L j).length d)).toList) (fun k hk => .inl (by simp [hk]))) ?_
        intro k hk
        simp only [Option.mem_toList] at hk
        exact .inr (O4.out.lt k hk).1
      have O5 := Lib.hid hown2
      have F5 := Lib.hid hF5
      clear hown' hgrow hown2 hF5
      go_wp2_with fail
      go_roundg (n - (j + 1))
      case measure => omega
      case rel => exact ⟨j + 1, rfl, by omega, rfl, O5.out, F5.out⟩
    · have hd : decide (j < n) = false := by rw [decide_eq_false_iff_not]; omega
      obtain rfl : j = n := by omega
      go_wp2_with fail
      go_ret
      exact ⟨_, rfl, by rw [← HFU.out]; exact O.out, F.out⟩
set_option maxHeartbeats 1000000 in
theorem kids_any (tb hi : Nat) (T : TreeD) (id at' : Int) (w : World) (h : TreeAt w tb hi T) : Calls Try.prog 78 #[.pointer (some ⟨tb, 0, none⟩), .int .i64 id, .int .i64 at'] w (IntsP ((T.L.filter (isKid id at')).map (·.id)) w) := by
  obtain ⟨i0, hi0, hz0, hz1, hz2⟩ := info_parts infoInt
  have HI := Lib.hid hi0
  have HZ0 := Lib.hid hz0
  have HZ1 := Lib.hid hz1
  have HZ2 := Lib.hid hz2
  clear hi0 hz0 hz1 hz2
  have hc2 : w.cell? ⟨tb, 2, none⟩ = some T.v := h.head.cell 2
  obtain ⟨a, c, hv, hlc, hp⟩ := h.vform
  have hfew := h.few
  have HH := Lib.hid h
  rw [hv] at hc2
  have HFU := Lib.hid (show kidsL T.L id at' T.L.length = (T.L.filter (isKid id at')).map (·.id) by unfold kidsL; rw [List.take_length])
  have HS := Lib.hid (fun j => kidsL_yes T.L id at' j)
  have HSN := Lib.hid (fun j => kidsL_no T.L id at' j)
  have HLE := Lib.hid (fun j => kidsL_le T.L id at' j)
  generalize hn : T.L.length = n at hc2 hlc hp hfew HFU HS HSN
  have HN := Lib.hid hn
  have HP := Lib.hid hp
  have HW := Lib.hid (World.ownsRow_nil w w.heap.size 3 1)
  clear h hv hp hn
  go_enter Try.func78, Try.ntmps78
  go_wp2_with fail
  go_loopg [7, 15] n (fun k v i wr => ∃ (j : Nat), k = n - j ∧ j ≤ n ∧ i = .int .i64 j ∧ wr.ownsRow w.heap.size 3 1 v (kidsL T.L id at' j).length ((kidsL T.L id at' j).map iv) ∧ Fr [] w wr)
  case atStart => exact ⟨0, rfl, by omega, rfl, HW.out, Fr.refl _ _⟩
  case round =>
    obtain ⟨j, rfl, hj, rfl, hO, hF⟩ := hrel
    obtain ⟨b, d, rfl⟩ := own_slice hO
    have O := Lib.hid hO
    have F := Lib.hid hF
    have hll := HLE.out j
    have hws : w.heap.size ≤ wr.heap.size := hF.size
    clear hO hF
    by_cases hjn : j < n
    · have hd : decide (j < n) = true := by rw [decide_eq_true_iff]; omega
      have HY := Lib.hid (HS.out j hjn)
      have HNO := Lib.hid (HSN.out j hjn)
      obtain ⟨g, rfl, hc0, _, hg⟩ := HP.out j hjn
      have hm := getD_memD T.L j (by rw [HN.out]; exact hjn)
      have hc : wr.cell? ⟨g, j, none⟩ = some (T.L.getD j default).ptr := by rw [World.cell?_of_block (F.out.block g hg (by simp))]; exact hc0
      have hx0 : wr.cell? ⟨(T.L.getD j default).b, 0, none⟩ = some (.int .i64 (T.L.getD j default).id) := ((HH.out.ins _ hm).fr F.out (by simp)).cell 0
      have hx3 : wr.cell? ⟨(T.L.getD j default).b, 3, none⟩ = some (.int .i64 (T.L.getD j default).par) := ((HH.out.ins _ hm).fr F.out (by simp)).cell 3
      have hx4 : wr.cell? ⟨(T.L.getD j default).b, 4, none⟩ = some (.int .i64 (T.L.getD j default).ev) := ((HH.out.ins _ hm).fr F.out (by simp)).cell 4
      obtain ⟨x, hx⟩ : ∃ x, T.L.getD j default = x := ⟨_, rfl⟩
      rw [hx] at hc hx0 hx3 hx4 HY HNO
      unfold InsD.ptr at hc
      clear hc0 hm hx
      have hO4 : (wr.alloc (.cells #[.int .i64 x.id] 3)).ownsRow w.heap.size 3 1 (.slice b (kidsL T.L id at' j).length d) (kidsL T.L id at' j).length ((kidsL T.L id at' j).map iv) := own_fr O.out ((Fr.refl [] wr).alloc _)
      have hnew : ∀ i u, ([.int .i64 x.id] : List Value)[i]? = some u → (wr.alloc (.cells #[.int .i64 x.id] 3)).cell? ((⟨wr.heap.size, 0, none⟩ : Addr).add i) = some u := by
        intro i u hi
        rw [Addr_add, Nat.zero_add]
        exact ((Row.new wr [.int .i64 x.id] 3).cell i).trans hi
      have O4 := Lib.hid hO4
      have NW := Lib.hid hnew
      clear hO4 hnew
      by_cases e1 : x.par = id
      · have d1 : (x.par == id) = true := by simpa using e1
        by_cases e2 : id ≥ 0
        · have d2 : decide (id ≥ 0) = true := decide_eq_true e2
          by_cases e3 : at' < 0
          · have d3 : decide (at' < 0) = true := decide_eq_true e3
            have HK := Lib.hid (show isKid id at' x = true by unfold isKid; simp [e1, e2, e3])
            clear e1 e2 e3
            go_wp2_with (at_builtin; refine wpList_append_own _ rfl _ _ 33 rfl w.heap.size 3 i0 (.int .i64 0) 1 8 Try.underlying33 HI.out HZ0.out HZ1.out HZ2.out rfl (by decide) _ _ _ rfl O4.out ⟨wr.heap.size, 0, none⟩ 1 1 [.int .i64 x.id] rfl rfl NW.out (by simp [Value.oneCell']) ?c3 ?c4 ?c5 ?_)
            case c3 => unfold maxLen; omega
            case c4 => omega
            case c5 => first | omega | (simp; omega)
            intro v' w5 hown' hgrow _
            have hown2 : w5.ownsRow w.heap.size 3 1 v' (kidsL T.L id at' (j + 1)).length ((kidsL T.L id at' (j + 1)).map iv) := by
              rw [HY.out HK.out, List.length_append, List.map_append]
              exact hown'
            have hF5 : Fr [] w w5 := by
              refine (F.out.alloc (.cells #[.int .i64 x.id] 3)).trans (Fr.of_grown hgrow ((Value.ownBlock (.slice b (kidsL T.L id at' j).length d)).toList) (fun k hk => .inl (by simp [hk]))) ?_
              intro k hk
              simp only [Option.mem_toList] at hk
              exact .inr (O4.out.lt k hk).1
            have O5 := Lib.hid hown2
            have F5 := Lib.hid hF5
            clear hown' hgrow hown2 hF5
            go_wp2_with fail
            go_roundg (n - (j + 1))
            case measure => omega
            case rel => exact ⟨j + 1, rfl, by omega, rfl, O5.out, F5.out⟩
          · have d3 : decide (at' < 0) = false := decide_eq_false e3
            by_cases e4 : x.ev = at'
            · have d4 : (x.ev == at') = true := by simpa using e4
              have HK := Lib.hid (show isKid id at' x = true by unfold isKid; simp [e1, e2, e4])
              clear e1 e2 e3 e4
              go_wp2_with (at_builtin; refine wpList_append_own _ rfl _ _ 33 rfl w.heap.size 3 i0 (.int .i64 0) 1 8 Try.underlying33 HI.out HZ0.out HZ1.out HZ2.out rfl (by decide) _ _ _ rfl O4.out ⟨wr.heap.size, 0, none⟩ 1 1 [.int .i64 x.id] rfl rfl NW.out (by simp [Value.oneCell']) ?c3 ?c4 ?c5 ?_)
              case c3 => unfold maxLen; omega
              case c4 => omega
              case c5 => first | omega | (simp; omega)
              intro v' w5 hown' hgrow _
              have hown2 : w5.ownsRow w.heap.size 3 1 v' (kidsL T.L id at' (j + 1)).length ((kidsL T.L id at' (j + 1)).map iv) := by
                rw [HY.out HK.out, List.length_append, List.map_append]
                exact hown'
              have hF5 : Fr [] w w5 := by
                refine (F.out.alloc (.cells #[.int .i64 x.id] 3)).trans (Fr.of_grown hgrow ((Value.ownBlock (.slice b (kidsL T.L id at' j).length d)).toList) (fun k hk => .inl (by simp [hk]))) ?_
                intro k hk
                simp only [Option.mem_toList] at hk
                exact .inr (O4.out.lt k hk).1
              have O5 := Lib.hid hown2
              have F5 := Lib.hid hF5
              clear hown' hgrow hown2 hF5
              go_wp2_with fail
              go_roundg (n - (j + 1))
              case measure => omega
              case rel => exact ⟨j + 1, rfl, by omega, rfl, O5.out, F5.out⟩
            · have d4 : (x.ev == at') = false := by simpa using e4
              have HK := Lib.hid (show isKid id at' x = false by unfold isKid; simp [e1, e2, e3, e4])
              clear e1 e2 e3 e4
              go_wp2_with fail
              go_roundg (n - (j + 1))
              case measure => omega
              case rel => exact ⟨j + 1, rfl, by omega, rfl, by rw [HNO.out HK.out]; exact O.out, F.out⟩
        · have d2 : decide (id ≥ 0) = false := decide_eq_false e2
          have HK := Lib.hid (show isKid id at' x = false by unfold isKid; simp [e2])
          clear e1 e2
          go_wp2_with fail
          go_roundg (n - (j + 1))
          case measure => omega
          case rel => exact ⟨j + 1, rfl, by omega, rfl, by rw [HNO.out HK.out]; exact O.out, F.out⟩
      · have d1 : (x.par == id) = false := by simpa using e1
        have HK := Lib.hid (show isKid id at' x = false by unfold isKid; simp [e1])
        clear e1
        go_wp2_with fail
        go_roundg (n - (j + 1))
        case measure => omega
        case rel => exact ⟨j + 1, rfl, by omega, rfl, by rw [HNO.out HK.out]; exact O.out, F.out⟩
    · have hd : decide (j < n) = false := by rw [decide_eq_false_iff_not]; omega
      obtain rfl : j = n := by omega
      go_wp2_with fail
      go_ret
      exact ⟨_, rfl, by rw [← HFU.out]; exact O.out, F.out⟩
theorem children_any (tb hi : Nat) (T : TreeD) (id : Int) (w : World) (h : TreeAt w tb hi T) : Calls Try.prog 50 #[.pointer (some ⟨tb, 0, none⟩), .int .i64 id] w (IntsP ((T.L.filter (isKid id (-1))).map (·.id)) w) := by
  have C1 := kids_any tb hi T id (-1) w h
  clear h
  go_enter Try.func50, Try.ntmps50
  go_wp2_with fail
  refine C1.mono ?_
  rintro e w2 ⟨v, rfl, hO, hF⟩
  go_wp2_with fail
  go_ret
  exact ⟨v, rfl, hO, hF⟩
end Go.Proofs.Ytclkahggfdnpgaa
set_option linter.unusedVariables false
set_option linter.unusedSimpArgs false
namespace Go.Proofs.Ytclkahggfdnpgaa
open Go.RowKit
/-- The cells of n rows, one behind the other. -/
def flatC (C : Nat → List Value) : Nat → List Value
  | 0 => []
  | n + 1 => flatC C n ++ C n
theorem flatC_length {C : Nat → List Value} {k : Nat} (hk : ∀ i, (C i).length = k) : ∀ n, (flatC C n).length = n * k
  | 0 => by simp [flatC]
  | n + 1 => by rw [flatC, List.length_append, flatC_length hk n, hk, Nat.succ_mul]
theorem flatC_at {C : Nat → List Value} {k : Nat} (hk : ∀ i, (C i).length = k) : ∀ n i r, i < n → r < k → (flatC C n)[i * k + r]? = (C i)[r]?
  | 0, i, r, h, _ => absurd h (by omega)
  | n + 1, i, r, h, hr => by
    rw [flatC]
    by_cases hi : i < n
    · have h2 : i * k + k ≤ n * k := by rw [← Nat.succ_mul]; exact Nat.mul_le_mul_right k hi
      rw [List.getElem?_append_left (by rw [flatC_length hk]; omega)]
      exact flatC_at hk n i r hi hr
    · obtain rfl : i = n := by omega
      rw [List.getElem?_append_right (by rw [flatC_length hk]; omega), flatC_length hk, Nat.add_sub_cancel_left]
theorem flatC_one {C : Nat → List Value} (h : ∀ i, ∀ v ∈ C i, v.oneCell' = true) : ∀ n, ∀ v ∈ flatC C n, v.oneCell' = true
  | 0, v, hv => by simp [flatC] at hv
  | n + 1, v, hv => by
    rw [flatC, List.mem_append] at hv
    rcases hv with hv | hv
    · exact flatC_one h n v hv
    · exact h n v hv
theorem flatC_cell {w : World} {b o n k : Nat} {C : Nat → List Value} (hk : ∀ i, (C i).length = k) (h0 : 0 < k) (hc : ∀ i, i < n → ∀ j v, (C i)[j]? = some v → w.cell? ⟨b, o + i * k + j, none⟩ = some v) (j : Nat) (u : Value) (hj : (flatC C n)[j]? = some u) : w.cell? ⟨b, o + j, none⟩ = some u := by
  have hlt : j < n * k := by rw [← flatC_length hk n]; exact (List.getElem?_eq_some_iff.1 hj).1
  have h1 : j / k < n := Nat.div_lt_of_lt_mul (by rw [Nat.mul_comm]; exact hlt)
  have e : j = j / k * k + j % k := by rw [Nat.mul_comm]; exact (Nat.div_add_mod j k).symm
  have h2 := flatC_at hk n (j / k) (j % k) h1 (Nat.mod_lt _ h0)
  rw [← e, hj] at h2
  have h3 := hc (j / k) h1 (j % k) u h2.symm
  rw [Nat.add_assoc, ← e] at h3
  exact h3
theorem rowsB_of_own {w : World} {base : Nat} {e : TypeId} {v : Value} {n k : Nat} {C : Nat → List Value} (hk : ∀ i, (C i).length = k) (h : w.ownsRow base e k v n (flatC C n)) : ∃ a c, v = .slice a n c ∧ RowsB w base w.heap.size a n k C := by
  rcases h.2 with ⟨rfl, rfl⟩ | ⟨g, cap, cur, rfl, hb, hg, hn, hcm, hcs, ht⟩
  · exact ⟨none, 0, rfl, ⟨fun h => absurd h (by omega)⟩⟩
  · refine ⟨_, cap, rfl, ⟨fun h0 => ⟨g, 0, rfl, (Array.getElem?_eq_some_iff.1 hg).1, hb, (Array.getElem?_eq_some_iff.1 hg).1, fun i hi j v hj => ?_⟩⟩⟩
    have hjk : j < k := by rw [← hk i]; exact (List.getElem?_eq_some_iff.1 hj).1
    have h2 : i * k + k ≤ n * k := by rw [← Nat.succ_mul]; exact Nat.mul_le_mul_right k hi
    rw [cell_of_row w g _ _ _ _ hg, ← Array.getElem?_toList, Nat.zero_add, ← List.take_append_drop (n * k) cur.toList, ht, List.getElem?_append_left (by rw [flatC_length hk]; omega), flatC_at hk n i j hi hjk]
    exact hj
theorem info_ex {P : Program} {t s b : Nat} (h : (P.info? t).map (fun i => (i.zero.map (·.cells.size), i.size, i.bytes)) = some (some s, s, b)) : ∃ i z, P.info? t = some i ∧ i.zero = some z ∧ i.size = s ∧ i.bytes = b ∧ z.cells.size = s := by
  rcases hx : P.info? t with _ | i
  · rw [hx] at h; simp at h
  · rw [hx] at h
    simp only [Option.map_some, Option.some.injEq, Prod.mk.injEq] at h
    obtain ⟨h1, h2, h3⟩ := h
    rcases hz : i.zero with _ | z
    · rw [hz] at h1; simp at h1
    · rw [hz] at h1
      exact ⟨i, z, rfl, hz, h2, h3, by simpa using h1⟩
/-- Rows told in a block of their own. -/
def ClonedB (n k : Nat) (C : Nat → List Value) (w : World) (e : Ending) (w' : World) : Prop := ∃ a c, e = .returned (.slice a n c) ∧ RowsB w' w.heap.size w'.heap.size a n k C ∧ Fr [] w w'
set_option maxHeartbeats 2000000 in
set_option maxRecDepth 100000 in
theorem clone72_some (ad : Addr) (n c : Nat) (C : Nat → List Value) (w : World) (hk : ∀ i, (C i).length = 6) (h1 : ∀ i, ∀ v ∈ C i, v.oneCell' = true) (hn : n ≤ 100000) (hc : ∀ j u, (flatC C n)[j]? = some u → w.cell? (ad.add j) = some u) :
    Calls Try.prog 72 #[.slice (some ad) n c] w (ClonedB n 6 C w) := by
  have q51 : ∀ (w : World) (a : Option Addr) (n c n' c' : Nat), (binOp .eql 22 (.slice a n c) (.slice none n' c')).run Try.prog w = .ok (.bool a.isNone) w := fun w a n c n' c' => Lib.run_eql_slice_nil w _ _ a n c n' c' Try.underlying22
  obtain ⟨i0, z0, hi, hz0, hz1, hz2, hz3⟩ := info_ex (show (Try.prog.info? 104).map (fun i => (i.zero.map (·.cells.size), i.size, i.bytes)) = some (some 6, 6, 64) by kernel_rfl)
  have HI := Lib.hid hi
  have HZ0 := Lib.hid hz0
  have HZ1 := Lib.hid hz1
  have HZ2 := Lib.hid hz2
  have HZ3 := Lib.hid hz3
  have HK := Lib.hid hk
  have HL := Lib.hid (flatC_length hk n)
  have HO1 := Lib.hid (flatC_one h1 n)
  have HC := Lib.hid hc
  clear hi hz0 hz1 hz2 hz3 hk h1 hc
  go_enter Try.func72, Try.ntmps72
  go_wp2_with (at_builtin; refine wpList_append_own _ rfl _ _ 22 rfl w.heap.size 104 i0 z0 6 64 Try.underlying22 HI.out HZ0.out HZ1.out HZ2.out HZ3.out (by decide) _ _ _ rfl (World.ownsRow_made w #[] 0 (Nat.le_refl _) (Nat.zero_le _) rfl) ad n c (flatC C n) rfl ?qc1 ?qc2 ?qc3 ?qc4 ?qc5 ?qc6 ?_)
  case qc1 => exact HL.out
  case qc2 =>
    intro j u hj
    exact Lib.cell?_alloc_some _ (HC.out j u hj)
  case qc3 => exact HO1.out
  case qc4 => unfold maxLen; omega
  case qc5 => omega
  case qc6 => simp
  intro v' w1 hown hgrow hnil
  have HO := Lib.hid hown
  have HG := Lib.hid hgrow
  clear hown hgrow hnil
  obtain ⟨a', c', hv', hb⟩ := rowsB_of_own (C := C) (n := n) HK.out (by simpa using HO.out)
  have HB := Lib.hid hb
  have HF := Lib.hid (((Fr.refl [] w).alloc _).trans (T := [w.heap.size]) (Fr.of_grown HG.out _ (fun k hk => .inl (by simp [Value.ownBlock] at hk; simp [hk]))) (fun y hy => .inr (by simp at hy; omega)))
  clear HO HG hb
  subst hv'
  go_wp2_with fail
  go_ret
  exact ⟨a', c', rfl, HB.out, HF.out⟩
theorem clone72_any (a : Option Addr) (n c : Nat) (C : Nat → List Value) (w : World) (hk : ∀ i, (C i).length = 6) (h1 : ∀ i, ∀ v ∈ C i, v.oneCell' = true) (hn : n ≤ 100000) (hr : RowsAt w a n 6 C) :
    Calls Try.prog 72 #[.slice a n c] w (ClonedB n 6 C w) := by
  by_cases h0 : 0 < n
  · obtain ⟨b, o, rfl, hb, hc⟩ := hr.at_ h0
    exact clone72_some _ n c C w hk h1 hn (fun j u hj => by rw [Addr_add]; exact flatC_cell hk (by decide) hc j u hj)
  · obtain rfl : n = 0 := by omega
    rcases a with _ | ad
    · have q51 : ∀ (w : World) (a : Option Addr) (n c n' c' : Nat), (binOp .eql 22 (.slice a n c) (.slice none n' c')).run Try.prog w = .ok (.bool a.isNone) w := fun w a n c n' c' => Lib.run_eql_slice_nil w _ _ a n c n' c' Try.underlying22
      clear hr
      go_enter Try.func72, Try.ntmps72
      go_wp2_with fail
      go_ret
      exact ⟨none, 0, rfl, ⟨fun h => absurd h (by omega)⟩, Fr.refl _ _⟩
    · exact clone72_some ad 0 c C w hk h1 hn (fun j u hj => by simp [flatC] at hj)
set_option maxHeartbeats 2000000 in
set_option maxRecDepth 100000 in
theorem clone73_some (ad : Addr) (n c : Nat) (C : Nat → List Value) (w : World) (hk : ∀ i, (C i).length = 4) (h1 : ∀ i, ∀ v ∈ C i, v.oneCell' = true) (hn : n ≤ 100000) (hc : ∀ j u, (flatC C n)[j]? = some u → w.cell? (ad.add j) = some u) :
    Calls Try.prog 73 #[.slice (some ad) n c] w (ClonedB n 4 C w) := by
  have q51 : ∀ (w : World) (a : Option Addr) (n c n' c' : Nat), (binOp .eql 23 (.slice a n c) (.slice none n' c')).run Try.prog w = .ok (.bool a.isNone) w := fun w a n c n' c' => Lib.run_eql_slice_nil w _ _ a n c n' c' Try.underlying23
  obtain ⟨i0, z0, hi, hz0, hz1, hz2, hz3⟩ := info_ex (show (Try.prog.info? 57).map (fun i => (i.zero.map (·.cells.size), i.size, i.bytes)) = some (some 4, 4, 32) by kernel_rfl)
  have HI := Lib.hid hi
  have HZ0 := Lib.hid hz0
  have HZ1 := Lib.hid hz1
  have HZ2 := Lib.hid hz2
  have HZ3 := Lib.hid hz3
  have HK := Lib.hid hk
  have HL := Lib.hid (flatC_length hk n)
  have HO1 := Lib.hid (flatC_one h1 n)
  have HC := Lib.hid hc
  clear hi hz0 hz1 hz2 hz3 hk h1 hc
  go_enter Try.func73, Try.ntmps73
  go_wp2_with (at_builtin; refine wpList_append_own _ rfl _ _ 23 rfl w.heap.size 57 i0 z0 4 32 Try.underlying23 HI.out HZ0.out HZ1.out HZ2.out HZ3.out (by decide) _ _ _ rfl (World.ownsRow_made w #[] 0 (Nat.le_refl _) (Nat.zero_le _) rfl) ad n c (flatC C n) rfl ?qc1 ?qc2 ?qc3 ?qc4 ?qc5 ?qc6 ?_)
  case qc1 => exact HL.out
  case qc2 =>
    intro j u hj
    exact Lib.cell?_alloc_some _ (HC.out j u hj)
  case qc3 => exact HO1.out
  case qc4 => unfold maxLen; omega
  case qc5 => omega
  case qc6 => simp
  intro v' w1 hown hgrow hnil
  have HO := Lib.hid hown
  have HG := Lib.hid hgrow
  clear hown hgrow hnil
  obtain ⟨a', c', hv', hb⟩ := rowsB_of_own (C := C) (n := n) HK.out (by simpa using HO.out)
  have HB := Lib.hid hb
  have HF := Lib.hid (((Fr.refl [] w).alloc _).trans (T := [w.heap.size]) (Fr.of_grown HG.out _ (fun k hk => .inl (by simp [Value.ownBlock] at hk; simp [hk]))) (fun y hy => .inr (by simp at hy; omega)))
  clear HO HG hb
  subst hv'
  go_wp2_with fail
  go_ret
  exact ⟨a', c', rfl, HB.out, HF.out⟩
theorem clone73_any (a : Option Addr) (n c : Nat) (C : Nat → List Value) (w : World) (hk : ∀ i, (C i).length = 4) (h1 : ∀ i, ∀ v ∈ C i, v.oneCell' = true) (hn : n ≤ 100000) (hr : RowsAt w a n 4 C) :
    Calls Try.prog 73 #[.slice a n c] w (ClonedB n 4 C w) := by
  by_cases h0 : 0 < n
  · obtain ⟨b, o, rfl, hb, hc⟩ := hr.at_ h0
    exact clone73_some _ n c C w hk h1 hn (fun j u hj => by rw [Addr_add]; exact flatC_cell hk (by decide) hc j u hj)
  · obtain rfl : n = 0 := by omega
    rcases a with _ | ad
    · have q51 : ∀ (w : World) (a : Option Addr) (n c n' c' : Nat), (binOp .eql 23 (.slice a n c) (.slice none n' c')).run Try.prog w = .ok (.bool a.isNone) w := fun w a n c n' c' => Lib.run_eql_slice_nil w _ _ a n c n' c' Try.underlying23
      clear hr
      go_enter Try.func73, Try.ntmps73
      go_wp2_with fail
      go_ret
      exact ⟨none, 0, rfl, ⟨fun h => absurd h (by omega)⟩, Fr.refl _ _⟩
    · exact clone73_some ad 0 c C w hk h1 hn (fun j u hj => by simp [flatC] at hj)
set_option maxHeartbeats 2000000 in
set_option maxRecDepth 100000 in
theorem clone83_some (ad : Addr) (n c : Nat) (C : Nat → List Value) (w : World) (hk : ∀ i, (C i).length = 3) (h1 : ∀ i, ∀ v ∈ C i, v.oneCell' = true) (hn : n ≤ 100000) (hc : ∀ j u, (flatC C n)[j]? = some u → w.cell? (ad.add j) = some u) :
    Calls Try.prog 83 #[.slice (some ad) n c] w (ClonedB n 3 C w) := by
  have q51 : ∀ (w : World) (a : Option Addr) (n c n' c' : Nat), (binOp .eql 26 (.slice a n c) (.slice none n' c')).run Try.prog w = .ok (.bool a.isNone) w := fun w a n c n' c' => Lib.run_eql_slice_nil w _ _ a n c n' c' Try.underlying26
  obtain ⟨i0, z0, hi, hz0, hz1, hz2, hz3⟩ := info_ex (show (Try.prog.info? 52).map (fun i => (i.zero.map (·.cells.size), i.size, i.bytes)) = some (some 3, 3, 24) by kernel_rfl)
  have HI := Lib.hid hi
  have HZ0 := Lib.hid hz0
  have HZ1 := Lib.hid hz1
  have HZ2 := Lib.hid hz2
  have HZ3 := Lib.hid hz3
  have HK := Lib.hid hk
  have HL := Lib.hid (flatC_length hk n)
  have HO1 := Lib.hid (flatC_one h1 n)
  have HC := Lib.hid hc
  clear hi hz0 hz1 hz2 hz3 hk h1 hc
  go_enter Try.func83, Try.ntmps83
  go_wp2_with (at_builtin; refine wpList_append_own _ rfl _ _ 26 rfl w.heap.size 52 i0 z0 3 24 Try.underlying26 HI.out HZ0.out HZ1.out HZ2.out HZ3.out (by decide) _ _ _ rfl (World.ownsRow_made w #[] 0 (Nat.le_refl _) (Nat.zero_le _) rfl) ad n c (flatC C n) rfl ?qc1 ?qc2 ?qc3 ?qc4 ?qc5 ?qc6 ?_)
  case qc1 => exact HL.out
  case qc2 =>
    intro j u hj
    exact Lib.cell?_alloc_some _ (HC.out j u hj)
  case qc3 => exact HO1.out
  case qc4 => unfold maxLen; omega
  case qc5 => omega
  case qc6 => simp
  intro v' w1 hown hgrow hnil
  have HO := Lib.hid hown
  have HG := Lib.hid hgrow
  clear hown hgrow hnil
  obtain ⟨a', c', hv', hb⟩ := rowsB_of_own (C := C) (n := n) HK.out (by simpa using HO.out)
  have HB := Lib.hid hb
  have HF := Lib.hid (((Fr.refl [] w).alloc _).trans (T := [w.heap.size]) (Fr.of_grown HG.out _ (fun k hk => .inl (by simp [Value.ownBlock] at hk; simp [hk]))) (fun y hy => .inr (by simp at hy; omega)))
  clear HO HG hb
  subst hv'
  go_wp2_with fail
  go_ret
  exact ⟨a', c', rfl, HB.out, HF.out⟩
theorem clone83_any (a : Option Addr) (n c : Nat) (C : Nat → List Value) (w : World) (hk : ∀ i, (C i).length = 3) (h1 : ∀ i, ∀ v ∈ C i, v.oneCell' = true) (hn : n ≤ 100000) (hr : RowsAt w a n 3 C) :
    Calls Try.prog 83 #[.slice a n c] w (ClonedB n 3 C w) := by
  by_cases h0 : 0 < n
  · obtain ⟨b, o, rfl, hb, hc⟩ := hr.at_ h0
    exact clone83_some _ n c C w hk h1 hn (fun j u hj => by rw [Addr_add]; exact flatC_cell hk (by decide) hc j u hj)
  · obtain rfl : n = 0 := by omega
    rcases a with _ | ad
    · have q51 : ∀ (w : World) (a : Option Addr) (n c n' c' : Nat), (binOp .eql 26 (.slice a n c) (.slice none n' c')).run Try.prog w = .ok (.bool a.isNone) w := fun w a n c n' c' => Lib.run_eql_slice_nil w _ _ a n c n' c' Try.underlying26
      clear hr
      go_enter Try.func83, Try.ntmps83
      go_wp2_with fail
      go_ret
      exact ⟨none, 0, rfl, ⟨fun h => absurd h (by omega)⟩, Fr.refl _ _⟩
    · exact clone83_some ad 0 c C w hk h1 hn (fun j u hj => by simp [flatC] at hj)
end Go.Proofs.Ytclkahggfdnpgaa
set_option linter.unusedVariables false
set_option linter.unusedSimpArgs false
namespace Go.Proofs.Ytclkahggfdnpgaa
open Go.RowKit
theorem cell_fr' {w w' : World} {p : Addr} {v : Value} (h : w.cell? p = some v) (f : Fr [] w w') : w'.cell? p = some v := by
  rw [World.cell?_of_block (f.block p.block (World.block_lt_of_cell? w _ h) (by simp))]; exact h
theorem flat_any (tb hi : Nat) (T : TreeD) (x : InsD) (f : FlatD) (w : World) (h : TreeAt w tb hi T) (hx : x ∈ T.L) (ht : x.tp < T.Fs.length) (hf : T.Fs.getD x.tp default = f) :
    Calls Try.prog 77 #[.pointer (some ⟨tb, 0, none⟩), x.ptr] w fun e w' => e = .returned f.val ∧ Fr [] w w' := by
  have c0 : w.cell? ⟨tb, 0, none⟩ = some (.slice T.ta T.Fs.length T.tc) := h.head.cell 0
  have x1 : w.cell? ⟨x.b, 1, none⟩ = some (.int .i64 x.tp) := h.cellI hx 1
  obtain ⟨gt, ot, ha, hgt, _, _, hc⟩ := h.tmpl.rows.at_ (by omega)
  have y0 : w.cell? ⟨gt, ot + x.tp * 2, none⟩ = some (.slice f.ea f.en f.ec) := hc x.tp ht 0 _ (by rw [hf]; rfl)
  have y1 : w.cell? ⟨gt, ot + x.tp * 2 + 1, none⟩ = some (.slice f.ta f.tn f.tc) := hc x.tp ht 1 _ (by rw [hf]; rfl)
  rw [ha] at c0
  have hFs : T.Fs.length ≤ T.Fs.length := Nat.le_refl _
  generalize T.Fs.length = n at c0 ht
  generalize x.tp = k at x1 y0 y1 ht
  unfold InsD.ptr FlatD.val
  generalize x.b = xb at x1
  generalize T.tc = tc at c0
  have hr := (Fr.refl [] w).alloc (.cells #[.slice none 0 0, .slice none 0 0] 25)
  have HR := Lib.hid hr
  have l0 := World.block_lt_of_cell? w _ c0
  have l1 := World.block_lt_of_cell? w _ x1
  clear hc ha h hx hf hr hFs
  go_enter Try.func77, Try.ntmps77
  go_wp2_with fail
  go_region_held_law (fun w' => w'.cell? ⟨tb, 0, none⟩ = some (.slice (some ⟨gt, ot, none⟩) n tc) ∧ w'.cell? ⟨xb, 1, none⟩ = some (.int .i64 k) ∧ w'.cell? ⟨gt, ot + k * 2, none⟩ = some (.slice f.ea f.en f.ec) ∧ w'.cell? ⟨gt, ot + k * 2 + 1, none⟩ = some (.slice f.ta f.tn f.tc)) (go_keep) (fail)
  go_wp2_with fail
  (try simp only [Exit.inBlock, Exit.then])
  refine bodyPost_ret (results_cell_row rfl _ _ w.heap.size 25 #[.slice f.ea f.en f.ec, .slice f.ta f.tn f.tc] (0, 0) _ rfl (Row.new w [.slice f.ea f.en f.ec, .slice f.ta f.tn f.tc] 25).drew Try.underlying25 rfl (by kernel_rfl)) rfl ?_
  exact ⟨rfl, ((Fr.refl [] w).alloc _).drew⟩
/-- A tree as it comes to be. -/
structure Good (T : TreeD) : Prop where
  tp : ∀ x ∈ T.L, x.tp < T.Fs.length
  fit : ∀ x ∈ T.L, fitsB (T.Fs.getD x.tp default).en x.m = true
  en : ∀ f ∈ T.Fs, f.en ≤ 10
  srt : (T.L.map (·.id)).Pairwise (· < ·)
  lo : ∀ x ∈ T.L, 0 ≤ x.id ∧ x.id < T.next
  root : ∃ x r, T.L = x :: r ∧ x.id = 0 ∧ x.par = -1 ∧ x.ev = -1 ∧ x.tp = 0
  par : ∀ x ∈ T.L, x.id ≠ 0 → 0 ≤ x.par ∧ x.par < x.id ∧ 0 ≤ x.ev ∧ ∃ y ∈ T.L, y.id = x.par ∧ ∃ c, T.C ((y.tp : Int), x.ev) = some c ∧ c.to_ = x.tp
  calls : ∀ k c, T.C k = some c → k = (c.of_, c.at_) ∧ 0 ≤ c.of_ ∧ c.of_ < c.to_ ∧ c.to_ < T.Fs.length ∧ 0 ≤ c.at_
  tmpls : T.Fs.length ≤ 8
  next : T.next ≤ 900
theorem Good.len {T : TreeD} (h : Good T) {x : InsD} (hx : x ∈ T.L) : x.m.length ≤ 10 := by
  have h1 := h.fit x hx
  have h2 := h.tp x hx
  have h3 : T.Fs.getD x.tp default ∈ T.Fs := getD_memD _ _ h2
  unfold fitsB at h1
  rw [Bool.and_eq_true, decide_eq_true_iff] at h1
  rw [h1.1]
  exact h.en _ h3
theorem Good.parlt {T : TreeD} (h : Good T) {x : InsD} (hx : x ∈ T.L) : -1 ≤ x.par ∧ x.par < x.id := by
  by_cases h0 : x.id = 0
  · obtain ⟨y, r, hL, h1, h2, _⟩ := h.root
    rw [hL] at hx
    rcases List.mem_cons.1 hx with rfl | hx
    · omega
    · have hs := h.srt
      rw [hL, List.map_cons, List.pairwise_cons] at hs
      have := hs.1 x.id (List.mem_map.2 ⟨x, hx, rfl⟩)
      omega
  · have := h.par x hx h0
    omega
/-- How deep an instance is; -1: it does not live. -/
inductive DepthI (L : List InsD) : Int → Int → Prop where
  | out {id : Int} : (∀ x ∈ L, x.id ≠ id) → DepthI L id (-1)
  | up {x : InsD} {d : Int} : x ∈ L → DepthI L x.par d → DepthI L x.id (d + 1)
def nilP : Value → Bool
  | .pointer none => true
  | _ => false
def DepthP (T : TreeD) (id : Int) (w : World) (e : Ending) (w' : World) : Prop := ∃ d, e = .returned (.int .i64 d) ∧ DepthI T.L id d ∧ Fr [] w w'
theorem depth_any (tb hi : Nat) (T : TreeD) (id : Int) (w : World) (h : TreeAt w tb hi T) (hg : Good T) :
    Calls Try.prog 52 #[.pointer (some ⟨tb, 0, none⟩), .int .i64 id] w (DepthP T id w) := by
  have C1 := of_any tb hi T id w h
  have HH := Lib.hid h
  have HG := Lib.hid hg
  clear h hg
  go_enter Try.func52, Try.ntmps52
  go_wp2_with fail
  refine C1.mono ?_
  rintro e w1 ⟨v, rfl, hv, hF⟩
  have HV := Lib.hid hv
  have F1 := Lib.hid hF
  clear hv hF C1
  go_wp2_with fail
  go_loopg [5, 6] (if nilP v then 0 else (id + 1).toNat) (fun k nv pv wr => ∃ n i : Int, nv = .int .i64 n ∧ k = (if nilP pv then 0 else (i + 1).toNat) ∧ OfAt T.L i pv ∧ (∀ d, DepthI T.L i d → DepthI T.L id (n + 1 + d)) ∧ -1 ≤ n ∧ (n = -1 ∨ (-1 ≤ i ∧ n + i ≤ 1000)) ∧ Fr [] w wr)
  case atStart => exact ⟨-1, id, rfl, rfl, HV.out, fun d hd => by rw [show -1 + 1 + d = d by omega]; exact hd, by omega, .inl rfl, F1.out⟩
  case round =>
    obtain ⟨n, i, rfl, rfl, hv, hd, hn, hni, hF⟩ := hrel
    have F := Lib.hid hF
    have HD := Lib.hid hd
    clear hF hd
    rcases hv with ⟨rfl, hv⟩ | ⟨j, hj, rfl, hid⟩
    · have HNo := Lib.hid hv
      clear hv
      go_wp2_with fail
      go_ret
      refine ⟨n, rfl, ?_, F.out⟩
      have := HD.out _ (.out HNo.out)
      rw [show n + 1 + -1 = n by omega] at this
      exact this
    · have hm := getD_memD T.L j hj
      have hp := HG.out.parlt hm
      have hl := HG.out.lo _ hm
      have hnx := HG.out.next
      have x3 : w.cell? ⟨(T.L.getD j default).b, 3, none⟩ = some (.int .i64 (T.L.getD j default).par) := HH.out.cellI hm 3
      have HM := Lib.hid hm
      obtain ⟨x, hx⟩ : ∃ x, T.L.getD j default = x := ⟨_, rfl⟩
      rw [hx] at HM hid hp hl x3
      have C2 := of_any tb hi T x.par wr (HH.out.fr F.out)
      have x3' : wr.cell? ⟨x.b, 3, none⟩ = some (.int .i64 x.par) := cell_fr' x3 F.out
      rw [hx] at *
      have HI := Lib.hid hid
      have hid2 : x.id ≤ i ∧ i ≤ x.id := by omega
      have hnx2 : x.id < 900 := by omega
      have hnb : n ≤ 1000 := by omega
      unfold InsD.ptr
      clear hm hid hj x3 hx hnx
      go_wp2_with fail
      refine C2.mono ?_
      rintro e w2 ⟨v2, rfl, hv2, hF2⟩
      have HV2 := Lib.hid hv2
      have F2 := Lib.hid (F.out.trans hF2 (by simp))
      clear hv2 hF2 C2
      go_wp2_with fail
      go_roundg (if nilP v2 then 0 else (x.par + 1).toNat)
      case measure =>
        split <;> omega
      case rel =>
        refine ⟨n + 1, x.par, rfl, rfl, HV2.out, fun d hd => ?_, by omega, .inr (by omega), F2.out⟩
        have := HD.out (d + 1) (by rw [← HI.out]; exact .up HM.out hd)
        rw [show n + 1 + (d + 1) = n + 1 + 1 + d by omega] at this
        exact this
end Go.Proofs.Ytclkahggfdnpgaa
set_option linter.unusedVariables false
set_option linter.unusedSimpArgs false
namespace Go.Proofs.Ytclkahggfdnpgaa
open Go.RowKit
theorem clampU_in (n : Int) : -1 ≤ clampU n ∧ clampU n ≤ 1048576 := by unfold clampU; split <;> (try split) <;> omega
theorem bad_iff (x : MarkD) : x.bad = false ↔ -1 ≤ x.age ∧ x.age ≤ 65536 ∧ -1 ≤ x.due ∧ x.due ≤ 1048576 := by
  unfold MarkD.bad withinB
  simp
  omega
theorem fits_iff (k : Nat) (M : List MarkD) : fitsB k M = true ↔ M.length = k ∧ ∀ x ∈ M, x.bad = false := by
  unfold fitsB
  simp
theorem start_fits (E : List EvD) : fitsB E.length (E.map startM) = true := by
  rw [fits_iff]
  refine ⟨List.length_map _, fun x hx => ?_⟩
  obtain ⟨e, _, rfl⟩ := List.mem_map.1 hx
  rw [bad_iff]
  have := clampU_in e.due
  refine ⟨?_, ?_, this.1, this.2⟩
  · show -1 ≤ (if e.done then (0 : Int) else -1); split <;> omega
  · show (if e.done then (0 : Int) else -1) ≤ 65536; split <;> omega
theorem tick_fits (k : Nat) (M : List MarkD) (h : fitsB k M = true) : fitsB k (M.map tickM) = true := by
  rw [fits_iff] at h ⊢
  refine ⟨by rw [List.length_map]; exact h.1, fun x hx => ?_⟩
  obtain ⟨y, hy, rfl⟩ := List.mem_map.1 hx
  have hb := (bad_iff y).1 (h.2 y hy)
  rw [bad_iff]
  show -1 ≤ tickA y ∧ tickA y ≤ 65536 ∧ -1 ≤ tickU y ∧ tickU y ≤ 1048576
  unfold tickA tickU
  refine ⟨?_, ?_, ?_, ?_⟩
  · split <;> (try split) <;> omega
  · split <;> (try split) <;> omega
  · split <;> omega
  · split <;> omega
theorem set_good (M : List MarkD) (i : Nat) (y : MarkD) (hy : y.bad = false) (h : ∀ x ∈ M, x.bad = false) : ∀ x ∈ M.set i y, x.bad = false := by
  intro x hx
  rcases List.mem_or_eq_of_mem_set hx with h1 | rfl
  · exact h x h1
  · exact hy
theorem default_good : (default : MarkD).bad = false := by decide
theorem getD_good (M : List MarkD) (i : Nat) (h : ∀ x ∈ M, x.bad = false) : (M.getD i default).bad = false := by
  by_cases hi : i < M.length
  · exact h _ (getD_mem M i hi)
  · rw [List.getD_eq_getElem?_getD, List.getElem?_eq_none (by omega)]
    exact default_good
theorem clampD_in (n : Int) : 0 ≤ clampD n ∧ clampD n ≤ 1048576 := by unfold clampD; split <;> (try split) <;> omega
theorem apply_good (kind : Int) (t : TieD) (x : MarkD) (h : x.bad = false) : (applyK kind t x).bad = false := by
  have hb := (bad_iff x).1 h
  have hc := clampD_in t.time
  unfold applyK
  split
  · split
    · rw [bad_iff]
      exact ⟨hb.1, hb.2.1, by show -1 ≤ clampD t.time; omega, hc.2⟩
    · exact h
  · rw [bad_iff]
    exact hb
theorem step_good (kind i : Int) (k : Nat) (out : List MarkD) (t : TieD) (h : ∀ x ∈ out, x.bad = false) : ∀ x ∈ stepK kind i k out t, x.bad = false := by
  unfold stepK
  split
  · exact set_good _ _ _ (apply_good _ _ _ (getD_good _ _ h)) h
  · exact h
theorem doK_good (kind i : Int) (k : Nat) (T : List TieD) : ∀ out : List MarkD, (∀ x ∈ out, x.bad = false) → ∀ x ∈ doK kind i k T out, x.bad = false := by
  induction T with
  | nil => intro out h; exact h
  | cons t T ih => intro out h; exact ih _ (step_good kind i k out t h)
theorem do_fits (f : FlatD) (M : List MarkD) (i : Nat) (h : fitsB f.en M = true) : fitsB f.en (doM f M i) = true := by
  rw [fits_iff] at h ⊢
  refine ⟨by rw [doM_length]; exact h.1, ?_⟩
  refine doK_good _ _ _ _ _ (doK_good _ _ _ _ _ (doK_good _ _ _ _ _ ?_))
  unfold doneM
  refine set_good _ _ _ ?_ h.2
  have hb := (bad_iff _).1 (getD_good M i h.2)
  rw [bad_iff]
  exact ⟨by show (-1 : Int) ≤ 0; omega, by show (0 : Int) ≤ 65536; omega, by show (-1 : Int) ≤ -1; omega, by show (-1 : Int) ≤ 1048576; omega⟩
end Go.Proofs.Ytclkahggfdnpgaa
set_option linter.unusedVariables false
set_option linter.unusedSimpArgs false
namespace Go.Proofs.Ytclkahggfdnpgaa
open Go.RowKit
theorem pend_iff (x : MarkD) : x.pend = true ↔ x.inn = true ∧ 0 ≤ x.due := by
  unfold MarkD.pend
  simp
theorem slackF_le (c : Int) (x : MarkD) : slackF c x ≤ c ∧ (x.pend = true → slackF c x ≤ x.due) := by
  unfold slackF
  split
  · split
    · exact ⟨by omega, fun _ => by omega⟩
    · exact ⟨by omega, fun _ => by omega⟩
  · rename_i h
    exact ⟨by omega, fun h' => absurd h' h⟩
theorem foldS_le (M : List MarkD) : ∀ c : Int, M.foldl slackF c ≤ c ∧ ∀ x ∈ M, x.pend = true → M.foldl slackF c ≤ x.due := by
  induction M with
  | nil => intro c; exact ⟨Int.le_refl _, fun x hx => by simp at hx⟩
  | cons y M ih =>
    intro c
    have h1 := slackF_le c y
    have h2 := ih (slackF c y)
    refine ⟨?_, fun x hx hp => ?_⟩
    · rw [List.foldl_cons]; omega
    · rw [List.foldl_cons]
      rcases List.mem_cons.1 hx with rfl | hx
      · have := h1.2 hp; omega
      · exact h2.2 x hx hp
theorem foldS_ge (M : List MarkD) : ∀ c : Int, 0 ≤ c → 0 ≤ M.foldl slackF c := by
  induction M with
  | nil => intro c h; exact h
  | cons y M ih =>
    intro c h
    rw [List.foldl_cons]
    refine ih _ ?_
    unfold slackF
    split
    · rename_i hp
      have := (pend_iff y).1 hp
      split <;> omega
    · exact h
theorem slack_of_fits {k : Nat} {M : List MarkD} (h : fitsB k M = true) : slackI k M = M.foldl slackF 1048576 := by unfold slackI; rw [if_pos h]
theorem slack_nn {k : Nat} {M : List MarkD} (h : fitsB k M = true) : 0 ≤ slackI k M ∧ slackI k M ≤ 1048576 := by
  rw [slack_of_fits h]
  exact ⟨foldS_ge M _ (by decide), (foldS_le M _).1⟩
theorem tick_go {f : FlatD} {M : List MarkD} (h : fitsB f.en M = true) (h0 : slackI f.en M ≠ 0) : tickE f M = 0 := by
  have := slack_nn h
  unfold tickE
  rw [if_neg (by omega), if_neg h0]
theorem tick_due {f : FlatD} {M : List MarkD} (h0 : slackI f.en M = 0) : tickE f M = 13 := by
  unfold tickE
  rw [if_neg (by omega), if_pos h0]
end Go.Proofs.Ytclkahggfdnpgaa
