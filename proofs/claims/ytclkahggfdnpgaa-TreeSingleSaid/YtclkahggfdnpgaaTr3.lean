/- The tree: what lives, an instance's children. -/
import Derived.Test.YtclkahggfdnpgaaTr2
set_option linter.unusedVariables false
set_option linter.unusedSimpArgs false
namespace Go.Proofs.Ytclkahggfdnpgaa
open Go.RowKit
def iv (k : Int) : Value := .int .i64 k
/-- A list of numbers, told in a row of its own. -/
def IntsP (L : List Int) (w : World) (e : Ending) (w' : World) : Prop := ∃ v, e = .returned v ∧ w'.ownsRow w.heap.size 3 1 v L.length (L.map iv) ∧ Fr [] w w'
def liveL (L : List InsD) (j : Nat) : List Int := (L.take j).map (·.id)
theorem liveL_le (L : List InsD) (j : Nat) : (liveL L j).length ≤ j := by unfold liveL; simp; omega
theorem liveL_succ (L : List InsD) (j : Nat) (h : j < L.length) : liveL L (j + 1) = liveL L j ++ [(L.getD j default).id] := by unfold liveL; rw [take_succD L j h, List.map_append]; rfl
def isKid (id at' : Int) (x : InsD) : Bool := decide (x.par = id) && decide (id ≥ 0) && (decide (at' < 0) || decide (x.ev = at'))
def kidsL (L : List InsD) (id at' : Int) (j : Nat) : List Int := ((L.take j).filter (isKid id at')).map (·.id)
theorem kidsL_le (L : List InsD) (id at' : Int) (j : Nat) : (kidsL L id at' j).length ≤ j := by
  unfold kidsL
  rw [List.length_map]
  have h1 := List.length_filter_le (isKid id at') (L.take j)
  have h2 := List.length_take_le j L
  omega
theorem kidsL_yes (L : List InsD) (id at' : Int) (j : Nat) (h : j < L.length) (hk : isKid id at' (L.getD j default) = true) : kidsL L id at' (j + 1) = kidsL L id at' j ++ [(L.getD j default).id] := by
  unfold kidsL; rw [take_succD L j h, List.filter_append, List.map_append]; generalize L.getD j default = x at hk ⊢; simp [hk]
theorem kidsL_no (L : List InsD) (id at' : Int) (j : Nat) (h : j < L.length) (hk : isKid id at' (L.getD j default) = false) : kidsL L id at' (j + 1) = kidsL L id at' j := by
  unfold kidsL; rw [take_succD L j h, List.filter_append, List.map_append]; generalize L.getD j default = x at hk ⊢; simp [hk]
set_option maxHeartbeats 1000000 in
theorem live_any (tb hi : Nat) (T : TreeD) (w : World) (h : TreeAt w tb hi T) : Calls Try.prog 48 #[.pointer (some ⟨tb, 0, none⟩)] w (IntsP (T.L.map (·.id)) w) := by
  obtain ⟨i0, hi0, hz0, hz1, hz2⟩ := info_parts infoInt
  have HI := Lib.hid hi0
  have HZ0 := Lib.hid hz0
  have HZ1 := Lib.hid hz1
  have HZ2 := Lib.hid hz2
  clear hi0 hz0 hz1 hz2
  have hc2 : w.cell? ⟨tb, 2, none⟩ = some T.v := h.head.cell 2
  obtain ⟨a, c, hv, hlc, hp⟩ := h.vform
  have hfew := h.few
  have HH := Lib.hid h
  rw [hv] at hc2
  have HFU := Lib.hid (show liveL T.L T.L.length = T.L.map (·.id) by unfold liveL; rw [List.take_length])
  have HS := Lib.hid (fun j => liveL_succ T.L j)
  have HLE := Lib.hid (fun j => liveL_le T.L j)
  generalize hn : T.L.length = n at hc2 hlc hp hfew HFU HS
  have HN := Lib.hid hn
  have HP := Lib.hid hp
  have HW := Lib.hid (World.ownsRow_nil w w.heap.size 3 1)
  clear h hv hp hn
  go_enter Try.func48, Try.ntmps48
  go_wp2_with fail
  go_loopg [3, 11] n (fun k v i wr => ∃ (j : Nat), k = n - j ∧ j ≤ n ∧ i = .int .i64 j ∧ wr.ownsRow w.heap.size 3 1 v (liveL T.L j).length ((liveL T.L j).map iv) ∧ Fr [] w wr)
  case atStart => exact ⟨0, rfl, by omega, rfl, HW.out, Fr.refl _ _⟩
  case round =>
    obtain ⟨j, rfl, hj, rfl, hO, hF⟩ := hrel
    obtain ⟨b, d, rfl⟩ := own_slice hO
    have O := Lib.hid hO
    have F := Lib.hid hF
    have hll := HLE.out j
    have hws : w.heap.size ≤ wr.heap.size := hF.size
    clear hO hF
    by_cases hjn : j < n
    · have hd : decide (j < n) = true := by rw [decide_eq_true_iff]; omega
      have HY := Lib.hid (HS.out j hjn)
      obtain ⟨g, rfl, hc0, _, hg⟩ := HP.out j hjn
      have hm := getD_memD T.L j (by rw [HN.out]; exact hjn)
      have hc : wr.cell? ⟨g, j, none⟩ = some (T.L.getD j default).ptr := by rw [World.cell?_of_block (F.out.block g hg (by simp))]; exact hc0
      have hx0 : wr.cell? ⟨(T.L.getD j default).b, 0, none⟩ = some (.int .i64 (T.L.getD j default).id) := ((HH.out.ins _ hm).fr F.out (by simp)).cell 0
      obtain ⟨x, hx⟩ : ∃ x, T.L.getD j default = x := ⟨_, rfl⟩
      rw [hx] at hc hx0
      unfold InsD.ptr at hc
      have HX := Lib.hid hx
      clear hc0 hm hx
      have hO4 : (wr.alloc (.cells #[.int .i64 x.id] 3)).ownsRow w.heap.size 3 1 (.slice b (liveL T.L j).length d) (liveL T.L j).length ((liveL T.L j).map iv) := own_fr O.out ((Fr.refl [] wr).alloc _)
      have hnew : ∀ i u, ([.int .i64 x.id] : List Value)[i]? = some u → (wr.alloc (.cells #[.int .i64 x.id] 3)).cell? ((⟨wr.heap.size, 0, none⟩ : Addr).add i) = some u := by
        intro i u hi
        rw [Addr_add, Nat.zero_add]
        exact ((Row.new wr [.int .i64 x.id] 3).cell i).trans hi
      have O4 := Lib.hid hO4
      have NW := Lib.hid hnew
      clear hO4 hnew
      go_wp2_with (at_builtin; refine wpList_append_own _ rfl _ _ 33 rfl w.heap.size 3 i0 (.int .i64 0) 1 8 Try.underlying33 HI.out HZ0.out HZ1.out HZ2.out rfl (by decide) _ _ _ rfl O4.out ⟨wr.heap.size, 0, none⟩ 1 1 [.int .i64 x.id] rfl rfl NW.out (by simp [Value.oneCell']) ?c3 ?c4 ?c5 ?_)
      case c3 => unfold maxLen; omega
      case c4 => omega
      case c5 => first | omega | (simp; omega)
      intro v' w5 hown' hgrow _
      have hown2 : w5.ownsRow w.heap.size 3 1 v' (liveL T.L (j + 1)).length ((liveL T.L (j + 1)).map iv) := by
        rw [HY.out, HX.out, List.length_append, List.map_append]
        exact hown'
      have hF5 : Fr [] w w5 := by
        refine (F.out.alloc (.cells #[.int .i64 x.id] 3)).trans (Fr.of_grown hgrow ((Value.ownBlock (.slice b (liveL T.L j).length d)).toList) (fun k hk => .inl (by simp [hk]))) ?_
        intro k hk
        simp only [Option.mem_toList] at hk
        exact .inr (O4.out.lt k hk).1
      have O5 := Lib.hid hown2
      have F5 := Lib.hid hF5
      clear hown' hgrow hown2 hF5
      go_wp2_with fail
      go_roundg (n - (j + 1))
      case measure => omega
      case rel => exact ⟨j + 1, rfl, by omega, rfl, O5.out, F5.out⟩
    · have hd : decide (j < n) = false := by rw [decide_eq_false_iff_not]; omega
      obtain rfl : j = n := by omega
      go_wp2_with fail
      go_ret
      exact ⟨_, rfl, by rw [← HFU.out]; exact O.out, F.out⟩
set_option maxHeartbeats 1000000 in
theorem kids_any (tb hi : Nat) (T : TreeD) (id at' : Int) (w : World) (h : TreeAt w tb hi T) : Calls Try.prog 78 #[.pointer (some ⟨tb, 0, none⟩), .int .i64 id, .int .i64 at'] w (IntsP ((T.L.filter (isKid id at')).map (·.id)) w) := by
  obtain ⟨i0, hi0, hz0, hz1, hz2⟩ := info_parts infoInt
  have HI := Lib.hid hi0
  have HZ0 := Lib.hid hz0
  have HZ1 := Lib.hid hz1
  have HZ2 := Lib.hid hz2
  clear hi0 hz0 hz1 hz2
  have hc2 : w.cell? ⟨tb, 2, none⟩ = some T.v := h.head.cell 2
  obtain ⟨a, c, hv, hlc, hp⟩ := h.vform
  have hfew := h.few
  have HH := Lib.hid h
  rw [hv] at hc2
  have HFU := Lib.hid (show kidsL T.L id at' T.L.length = (T.L.filter (isKid id at')).map (·.id) by unfold kidsL; rw [List.take_length])
  have HS := Lib.hid (fun j => kidsL_yes T.L id at' j)
  have HSN := Lib.hid (fun j => kidsL_no T.L id at' j)
  have HLE := Lib.hid (fun j => kidsL_le T.L id at' j)
  generalize hn : T.L.length = n at hc2 hlc hp hfew HFU HS HSN
  have HN := Lib.hid hn
  have HP := Lib.hid hp
  have HW := Lib.hid (World.ownsRow_nil w w.heap.size 3 1)
  clear h hv hp hn
  go_enter Try.func78, Try.ntmps78
  go_wp2_with fail
  go_loopg [7, 15] n (fun k v i wr => ∃ (j : Nat), k = n - j ∧ j ≤ n ∧ i = .int .i64 j ∧ wr.ownsRow w.heap.size 3 1 v (kidsL T.L id at' j).length ((kidsL T.L id at' j).map iv) ∧ Fr [] w wr)
  case atStart => exact ⟨0, rfl, by omega, rfl, HW.out, Fr.refl _ _⟩
  case round =>
    obtain ⟨j, rfl, hj, rfl, hO, hF⟩ := hrel
    obtain ⟨b, d, rfl⟩ := own_slice hO
    have O := Lib.hid hO
    have F := Lib.hid hF
    have hll := HLE.out j
    have hws : w.heap.size ≤ wr.heap.size := hF.size
    clear hO hF
    by_cases hjn : j < n
    · have hd : decide (j < n) = true := by rw [decide_eq_true_iff]; omega
      have HY := Lib.hid (HS.out j hjn)
      have HNO := Lib.hid (HSN.out j hjn)
      obtain ⟨g, rfl, hc0, _, hg⟩ := HP.out j hjn
      have hm := getD_memD T.L j (by rw [HN.out]; exact hjn)
      have hc : wr.cell? ⟨g, j, none⟩ = some (T.L.getD j default).ptr := by rw [World.cell?_of_block (F.out.block g hg (by simp))]; exact hc0
      have hx0 : wr.cell? ⟨(T.L.getD j default).b, 0, none⟩ = some (.int .i64 (T.L.getD j default).id) := ((HH.out.ins _ hm).fr F.out (by simp)).cell 0
      have hx3 : wr.cell? ⟨(T.L.getD j default).b, 3, none⟩ = some (.int .i64 (T.L.getD j default).par) := ((HH.out.ins _ hm).fr F.out (by simp)).cell 3
      have hx4 : wr.cell? ⟨(T.L.getD j default).b, 4, none⟩ = some (.int .i64 (T.L.getD j default).ev) := ((HH.out.ins _ hm).fr F.out (by simp)).cell 4
      obtain ⟨x, hx⟩ : ∃ x, T.L.getD j default = x := ⟨_, rfl⟩
      rw [hx] at hc hx0 hx3 hx4 HY HNO
      unfold InsD.ptr at hc
      clear hc0 hm hx
      have hO4 : (wr.alloc (.cells #[.int .i64 x.id] 3)).ownsRow w.heap.size 3 1 (.slice b (kidsL T.L id at' j).length d) (kidsL T.L id at' j).length ((kidsL T.L id at' j).map iv) := own_fr O.out ((Fr.refl [] wr).alloc _)
      have hnew : ∀ i u, ([.int .i64 x.id] : List Value)[i]? = some u → (wr.alloc (.cells #[.int .i64 x.id] 3)).cell? ((⟨wr.heap.size, 0, none⟩ : Addr).add i) = some u := by
        intro i u hi
        rw [Addr_add, Nat.zero_add]
        exact ((Row.new wr [.int .i64 x.id] 3).cell i).trans hi
      have O4 := Lib.hid hO4
      have NW := Lib.hid hnew
      clear hO4 hnew
      by_cases e1 : x.par = id
      · have d1 : (x.par == id) = true := by simpa using e1
        by_cases e2 : id ≥ 0
        · have d2 : decide (id ≥ 0) = true := decide_eq_true e2
          by_cases e3 : at' < 0
          · have d3 : decide (at' < 0) = true := decide_eq_true e3
            have HK := Lib.hid (show isKid id at' x = true by unfold isKid; simp [e1, e2, e3])
            clear e1 e2 e3
            go_wp2_with (at_builtin; refine wpList_append_own _ rfl _ _ 33 rfl w.heap.size 3 i0 (.int .i64 0) 1 8 Try.underlying33 HI.out HZ0.out HZ1.out HZ2.out rfl (by decide) _ _ _ rfl O4.out ⟨wr.heap.size, 0, none⟩ 1 1 [.int .i64 x.id] rfl rfl NW.out (by simp [Value.oneCell']) ?c3 ?c4 ?c5 ?_)
            case c3 => unfold maxLen; omega
            case c4 => omega
            case c5 => first | omega | (simp; omega)
            intro v' w5 hown' hgrow _
            have hown2 : w5.ownsRow w.heap.size 3 1 v' (kidsL T.L id at' (j + 1)).length ((kidsL T.L id at' (j + 1)).map iv) := by
              rw [HY.out HK.out, List.length_append, List.map_append]
              exact hown'
            have hF5 : Fr [] w w5 := by
              refine (F.out.alloc (.cells #[.int .i64 x.id] 3)).trans (Fr.of_grown hgrow ((Value.ownBlock (.slice b (kidsL T.L id at' j).length d)).toList) (fun k hk => .inl (by simp [hk]))) ?_
              intro k hk
              simp only [Option.mem_toList] at hk
              exact .inr (O4.out.lt k hk).1
            have O5 := Lib.hid hown2
            have F5 := Lib.hid hF5
            clear hown' hgrow hown2 hF5
            go_wp2_with fail
            go_roundg (n - (j + 1))
            case measure => omega
            case rel => exact ⟨j + 1, rfl, by omega, rfl, O5.out, F5.out⟩
          · have d3 : decide (at' < 0) = false := decide_eq_false e3
            by_cases e4 : x.ev = at'
            · have d4 : (x.ev == at') = true := by simpa using e4
              have HK := Lib.hid (show isKid id at' x = true by unfold isKid; simp [e1, e2, e4])
              clear e1 e2 e3 e4
              go_wp2_with (at_builtin; refine wpList_append_own _ rfl _ _ 33 rfl w.heap.size 3 i0 (.int .i64 0) 1 8 Try.underlying33 HI.out HZ0.out HZ1.out HZ2.out rfl (by decide) _ _ _ rfl O4.out ⟨wr.heap.size, 0, none⟩ 1 1 [.int .i64 x.id] rfl rfl NW.out (by simp [Value.oneCell']) ?c3 ?c4 ?c5 ?_)
              case c3 => unfold maxLen; omega
              case c4 => omega
              case c5 => first | omega | (simp; omega)
              intro v' w5 hown' hgrow _
              have hown2 : w5.ownsRow w.heap.size 3 1 v' (kidsL T.L id at' (j + 1)).length ((kidsL T.L id at' (j + 1)).map iv) := by
                rw [HY.out HK.out, List.length_append, List.map_append]
                exact hown'
              have hF5 : Fr [] w w5 := by
                refine (F.out.alloc (.cells #[.int .i64 x.id] 3)).trans (Fr.of_grown hgrow ((Value.ownBlock (.slice b (kidsL T.L id at' j).length d)).toList) (fun k hk => .inl (by simp [hk]))) ?_
                intro k hk
                simp only [Option.mem_toList] at hk
                exact .inr (O4.out.lt k hk).1
              have O5 := Lib.hid hown2
              have F5 := Lib.hid hF5
              clear hown' hgrow hown2 hF5
              go_wp2_with fail
              go_roundg (n - (j + 1))
              case measure => omega
              case rel => exact ⟨j + 1, rfl, by omega, rfl, O5.out, F5.out⟩
            · have d4 : (x.ev == at') = false := by simpa using e4
              have HK := Lib.hid (show isKid id at' x = false by unfold isKid; simp [e1, e2, e3, e4])
              clear e1 e2 e3 e4
              go_wp2_with fail
              go_roundg (n - (j + 1))
              case measure => omega
              case rel => exact ⟨j + 1, rfl, by omega, rfl, by rw [HNO.out HK.out]; exact O.out, F.out⟩
        · have d2 : decide (id ≥ 0) = false := decide_eq_false e2
          have HK := Lib.hid (show isKid id at' x = false by unfold isKid; simp [e2])
          clear e1 e2
          go_wp2_with fail
          go_roundg (n - (j + 1))
          case measure => omega
          case rel => exact ⟨j + 1, rfl, by omega, rfl, by rw [HNO.out HK.out]; exact O.out, F.out⟩
      · have d1 : (x.par == id) = false := by simpa using e1
        have HK := Lib.hid (show isKid id at' x = false by unfold isKid; simp [e1])
        clear e1
        go_wp2_with fail
        go_roundg (n - (j + 1))
        case measure => omega
        case rel => exact ⟨j + 1, rfl, by omega, rfl, by rw [HNO.out HK.out]; exact O.out, F.out⟩
    · have hd : decide (j < n) = false := by rw [decide_eq_false_iff_not]; omega
      obtain rfl : j = n := by omega
      go_wp2_with fail
      go_ret
      exact ⟨_, rfl, by rw [← HFU.out]; exact O.out, F.out⟩
theorem children_any (tb hi : Nat) (T : TreeD) (id : Int) (w : World) (h : TreeAt w tb hi T) : Calls Try.prog 50 #[.pointer (some ⟨tb, 0, none⟩), .int .i64 id] w (IntsP ((T.L.filter (isKid id (-1))).map (·.id)) w) := by
  have C1 := kids_any tb hi T id (-1) w h
  clear h
  go_enter Try.func50, Try.ntmps50
  go_wp2_with fail
  refine C1.mono ?_
  rintro e w2 ⟨v, rfl, hO, hF⟩
  go_wp2_with fail
  go_ret
  exact ⟨v, rfl, hO, hF⟩
end Go.Proofs.Ytclkahggfdnpgaa
