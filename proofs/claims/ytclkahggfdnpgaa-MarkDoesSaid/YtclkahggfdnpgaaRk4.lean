/- A flat graph as the document has it; a tie between two events. -/
import Derived.Test.YtclkahggfdnpgaaRk2
import Derived.Test.YtclkahggfdnpgaaRk3
import Derived.Deep.RegionLaw
import Derived.Deep.AppendLies
set_option linter.unusedVariables false
set_option linter.unusedSimpArgs false
namespace Go.Proofs.Ytclkahggfdnpgaa
open Go.RowKit
theorem rtwo_any (f : FlatD) (t : TieD) (w : World) : Calls Try.prog 62 #[f.val, t.val] w fun e w' => e = .returned (.bool (t.between f.en)) ∧ Fr [] w w' := by
  have hr := ((Fr.refl [] w).alloc (.cells #[.slice f.ea f.en f.ec, .slice f.ta f.tn f.tc] 31)).alloc (.cells #[.int .i64 t.kind, .int .i64 t.src, .int .i64 t.dst, .int .i64 t.time] 105)
  have HR := Lib.hid hr
  clear hr
  have hb : t.between f.en = decide (0 ≤ t.src ∧ t.src < f.en ∧ 0 ≤ t.dst ∧ t.dst < f.en) := rfl
  rw [hb]
  unfold FlatD.val TieD.val
  by_cases h1 : t.src ≥ 0
  · have d1 : decide (t.src ≥ 0) = true := decide_eq_true h1
    by_cases h2 : t.src < f.en
    · have d2 : decide (t.src < (f.en : Int)) = true := decide_eq_true h2
      by_cases h3 : t.dst ≥ 0
      · have d3 : decide (t.dst ≥ 0) = true := decide_eq_true h3
        by_cases h4 : t.dst < f.en
        · have d4 : decide (t.dst < (f.en : Int)) = true := decide_eq_true h4
          have HB := Lib.hid (decide_eq_true (⟨by omega, h2, by omega, h4⟩ : 0 ≤ t.src ∧ t.src < f.en ∧ 0 ≤ t.dst ∧ t.dst < f.en))
          clear h1 h2 h3 h4 hb
          go_enter Try.func62, Try.ntmps62
          go_wp2_with fail
          go_ret
          exact ⟨ret_bool HB.out.symm, HR.out⟩
        · have d4 : decide (t.dst < (f.en : Int)) = false := decide_eq_false h4
          have HB := Lib.hid (decide_eq_false (fun h => h4 h.2.2.2 : ¬ (0 ≤ t.src ∧ t.src < f.en ∧ 0 ≤ t.dst ∧ t.dst < f.en)))
          clear h1 h2 h3 h4 hb
          go_enter Try.func62, Try.ntmps62
          go_wp2_with fail
          go_ret
          exact ⟨ret_bool HB.out.symm, HR.out⟩
      · have d3 : decide (t.dst ≥ 0) = false := decide_eq_false h3
        have HB := Lib.hid (decide_eq_false (fun h => h3 h.2.2.1 : ¬ (0 ≤ t.src ∧ t.src < f.en ∧ 0 ≤ t.dst ∧ t.dst < f.en)))
        clear h1 h2 h3 hb
        go_enter Try.func62, Try.ntmps62
        go_wp2_with fail
        go_ret
        exact ⟨ret_bool HB.out.symm, HR.out⟩
    · have d2 : decide (t.src < (f.en : Int)) = false := decide_eq_false h2
      have HB := Lib.hid (decide_eq_false (fun h => h2 h.2.1 : ¬ (0 ≤ t.src ∧ t.src < f.en ∧ 0 ≤ t.dst ∧ t.dst < f.en)))
      clear h1 h2 hb
      go_enter Try.func62, Try.ntmps62
      go_wp2_with fail
      go_ret
      exact ⟨ret_bool HB.out.symm, HR.out⟩
  · have d1 : decide (t.src ≥ 0) = false := decide_eq_false h1
    have HB := Lib.hid (decide_eq_false (fun h => h1 h.1 : ¬ (0 ≤ t.src ∧ t.src < f.en ∧ 0 ≤ t.dst ∧ t.dst < f.en)))
    clear h1 hb
    go_enter Try.func62, Try.ntmps62
    go_wp2_with fail
    go_ret
    exact ⟨ret_bool HB.out.symm, HR.out⟩
def tcells : List TieD → List Value
  | [] => []
  | x :: M => .int .i64 x.kind :: .int .i64 x.src :: .int .i64 x.dst :: .int .i64 x.time :: tcells M
theorem tcells_snoc (M : List TieD) (x : TieD) : tcells (M ++ [x]) = tcells M ++ x.cells := by
  induction M with
  | nil => rfl
  | cons y M ih => simp [tcells, ih]
theorem tcells_length (M : List TieD) : (tcells M).length = M.length * 4 := by
  induction M with
  | nil => rfl
  | cons x M ih => simp [tcells, ih]; omega
theorem tcells_at (M : List TieD) : ∀ (i r : Nat), i < M.length → r < 4 → (tcells M)[i * 4 + r]? = (M.getD i default).cells[r]? := by
  induction M with
  | nil => intro i r h; simp at h
  | cons x M ih =>
    intro i r hi hr
    cases i with
    | zero =>
      match r, hr with
      | 0, _ | 1, _ | 2, _ | 3, _ => rfl
    | succ i =>
      have hi' : i < M.length := by simpa using hi
      have e : (i + 1) * 4 + r = (i * 4 + r) + 1 + 1 + 1 + 1 := by omega
      rw [e]
      show (tcells M)[i * 4 + r]? = _
      rw [ih i r hi' hr]
      rfl
theorem ties_of_own {w : World} {base : Nat} {a : Option Addr} {n c : Nat} {M : List TieD} (h : w.ownsRow base 105 4 (.slice a n c) n (tcells M)) : TiesAt w a n M := by
  have hl : M.length = n := by have h1 := h.1; rw [tcells_length] at h1; omega
  rcases h.2 with ⟨hv, h0⟩ | ⟨g, cap, cur, hv, hb, hg, hn, hcm, hcs, ht⟩
  · injection hv with h1 h2 h3
    exact ⟨hl, ⟨fun h => absurd h (by omega)⟩⟩
  · injection hv with h1 h2 h3
    subst h1
    refine ⟨hl, ⟨fun h0 => ⟨g, 0, rfl, (Array.getElem?_eq_some_iff.1 hg).1, fun i hi j v hj => ?_⟩⟩⟩
    have hj4 : j < 4 := (List.getElem?_eq_some_iff.1 hj).1
    rw [cell_of_row w g _ _ _ _ hg, Nat.zero_add]
    have h2 := tcells_at M i j (by omega) hj4
    rw [← ht, List.getElem?_take, if_pos (by omega)] at h2
    rw [← Array.getElem?_toList, h2]
    exact hj
theorem infoT : (Try.prog.info? 105).map (fun i => (i.zero, i.size, i.bytes)) = some (some (.agg #[.int .i64 0, .int .i64 0, .int .i64 0, .int .i64 0]), 4, 32) := by kernel_rfl
theorem agg31 (w : World) : (isAgg 31).run Try.prog w = .ok true w := by kernel_rfl
theorem size31 : (Try.prog.info? 31).map (·.size) = some 2 := by kernel_rfl
theorem results_cell1 {fn : Func} {p : Tmp} {ty : TypeId} (h : fn.results = #[.cell p ty]) (tmps : Array Value) (P : Program) (w : World) {g : Nat} {cs : List Value} (hp : tmps.getD p undef = .pointer (some ⟨g, 0, none⟩))
    (hagg : ∀ w, (isAgg ty).run P w = .ok true w) (hi : (P.info? ty).map (·.size) = some cs.length) (hc : ∀ j v, cs[j]? = some v → w.cell? ⟨g, 0 + j, none⟩ = some v) : (results fn tmps).run P w = .ok (.agg cs.toArray) w := by
  have hl := run_loadVar_at P w ty g 0 cs hagg hc hi
  simp only [results, h]
  have hp' : tmps[p]?.getD undef = .pointer (some ⟨g, 0, none⟩) := by rw [← Array.getD_eq_getD_getElem?]; exact hp
  simp [Sem.run_bind, Result.andThen, hp', asAddr, hl]
theorem own_frS {w w' : World} {base : Nat} {e : TypeId} {size n : Nat} {v : Value} {xs : List Value} {S : List Nat} (h : w.ownsRow base e size v n xs) (f : Fr S w w') (hS : ∀ y ∈ S, y < base) : w'.ownsRow base e size v n xs := by
  refine ⟨h.1, ?_⟩
  rcases h.2 with ⟨rfl, rfl⟩ | ⟨g, cap, cur, rfl, hb, hg, r⟩
  · exact .inl ⟨rfl, rfl⟩
  · exact .inr ⟨g, cap, cur, rfl, hb, (f.block g ((Array.getElem?_eq_some_iff.1 hg).1) (fun hy => by have := hS g hy; omega)).trans hg, r⟩
/-- The graph's copy: the same events, ties of its own. -/
def Owned (f : FlatD) (w : World) (e : Ending) (w' : World) : Prop := ∃ a c, e = .returned (FlatD.val ⟨f.ea, f.en, f.ec, a, f.tn, c, f.E, f.T⟩) ∧ TiesAt w' a f.tn f.T ∧ Fr [] w w'
set_option maxRecDepth 100000 in
set_option maxHeartbeats 1000000 in
theorem own_any (f : FlatD) (w : World) (hf : FlatAt w f) : Calls Try.prog 16 #[f.val] w (Owned f w) := by
  obtain ⟨i0, hi, hz0, hz1, hz2⟩ := info_parts infoT
  have HI := Lib.hid hi
  have HZ0 := Lib.hid hz0
  have HZ1 := Lib.hid hz1
  have HZ2 := Lib.hid hz2
  clear hi hz0 hz1 hz2
  have HE := Lib.hid hf.ties
  have HLE := Lib.hid hf.ties.1
  have hfew := hf.few2
  clear hf
  obtain ⟨ea, en, ec, ta, tn, tc, E, T⟩ := f
  simp only at HE HLE hfew ⊢
  have hr := (((Fr.refl [] w).alloc (.cells #[.slice ea en ec, .slice ta tn tc] 25)).alloc (.cells #[.slice none 0 0, .slice none 0 0] 31)).alloc (.cells #[.slice ea en ec, .slice none 0 0] 31)
  have e1 : (w.alloc (.cells #[.slice ea en ec, .slice ta tn tc] 25)).heap.size = w.heap.size + 1 := by simp
  have e2 : ((w.alloc (.cells #[.slice ea en ec, .slice ta tn tc] 25)).alloc (.cells #[.slice none 0 0, .slice none 0 0] 31)).heap.size = w.heap.size + 1 + 1 := by simp
  have r1 := ((Row.new w [.slice ea en ec, .slice ta tn tc] 25).alloc (.cells #[.slice none 0 0, .slice none 0 0] 31)).alloc (.cells #[.slice ea en ec, .slice none 0 0] 31)
  have r2 := (Row.new (w.alloc (.cells #[.slice ea en ec, .slice ta tn tc] 25)) [.slice none 0 0, .slice none 0 0] 31).alloc (.cells #[.slice ea en ec, .slice none 0 0] 31)
  have r3 := Row.new ((w.alloc (.cells #[.slice ea en ec, .slice ta tn tc] 25)).alloc (.cells #[.slice none 0 0, .slice none 0 0] 31)) [.slice ea en ec, .slice none 0 0] 31
  rw [e1] at r2
  rw [e2] at r3
  have HR := Lib.hid hr
  have R1 := Lib.hid r1
  have R2 := Lib.hid r2
  have R3 := Lib.hid r3
  have HW := Lib.hid (World.ownsRow_nil (((w.alloc (.cells #[.slice ea en ec, .slice ta tn tc] 25)).alloc (.cells #[.slice none 0 0, .slice none 0 0] 31)).alloc (.cells #[.slice ea en ec, .slice none 0 0] 31)) (w.heap.size + 3) 105 4)
  have HS := Lib.hid (show (((w.alloc (.cells #[.slice ea en ec, .slice ta tn tc] 25)).alloc (.cells #[.slice none 0 0, .slice none 0 0] 31)).alloc (.cells #[.slice ea en ec, .slice none 0 0] 31)).heap.size = w.heap.size + 3 by simp)
  clear hr e1 e2 r1 r2 r3
  unfold FlatD.val
  simp only
  go_enter Try.func16, Try.ntmps16
  go_wp2_with fail
  generalize hW3 : ((w.alloc (.cells #[.slice ea en ec, .slice ta tn tc] 25)).alloc (.cells #[.slice none 0 0, .slice none 0 0] 31)).alloc (.cells #[.slice ea en ec, .slice none 0 0] 31) = W3 at HR R1 R2 R3 HW HS ⊢
  clear hW3
  go_loopg [11] tn (fun k i wr => ∃ (j : Nat) (v : Value), k = tn - j ∧ j ≤ tn ∧ i = .int .i64 j ∧ Row wr (w.heap.size + 1 + 1) [.slice ea en ec, v] 31 ∧ wr.ownsRow (w.heap.size + 3) 105 4 v j (tcells (T.take j)) ∧ Fr [w.heap.size + 1 + 1] W3 wr)
  case atStart => exact ⟨0, .slice none 0 0, rfl, by omega, rfl, R3.out, HW.out, Fr.refl _ _⟩
  case round =>
    obtain ⟨j, v, rfl, hj, rfl, hRow, hO, hF⟩ := hrel
    obtain ⟨a, c, rfl⟩ := own_slice hO
    have hws : w.heap.size + 3 ≤ wr.heap.size := by have := hF.size; have := HS.out; omega
    have O := Lib.hid hO
    have F := Lib.hid hF
    have RO := Lib.hid hRow
    have FW := Lib.hid (HR.out.trans hF (by intro x hx; simp at hx; exact .inr (by omega)))
    have x0 : wr.cell? ⟨w.heap.size, 0, none⟩ = some (.slice ea en ec) := (R1.out.fr hF (by simp; omega)).cell 0
    have x1 : wr.cell? ⟨w.heap.size, 1, none⟩ = some (.slice ta tn tc) := (R1.out.fr hF (by simp; omega)).cell 1
    have z0 : wr.cell? ⟨w.heap.size + 1 + 1, 0, none⟩ = some (.slice ea en ec) := hRow.cell 0
    have z1 : wr.cell? ⟨w.heap.size + 1 + 1, 1, none⟩ = some (.slice a j c) := hRow.cell 1
    have q0 : wr.cell? ⟨w.heap.size + 1, 0, none⟩ = some (.slice none 0 0) := (R2.out.fr hF (by simp)).cell 0
    have q1 : wr.cell? ⟨w.heap.size + 1, 1, none⟩ = some (.slice none 0 0) := (R2.out.fr hF (by simp)).cell 1
    have g0 := (R2.out.fr hF (by simp)).frozen 0
    have g1 := (R2.out.fr hF (by simp)).frozen 1
    clear hO hF hRow
    by_cases hjn : j < tn
    · have hd : decide (j < tn) = true := decide_eq_true hjn
      obtain ⟨b1, o1, rfl, hb1, hc1⟩ := (HE.out.fr FW.out).2.at_ (by omega)
      have hcx := hc1 j hjn
      have ht := take_succD T j (by rw [HLE.out]; exact hjn)
      generalize T.getD j default = x at hcx ht
      have t0 : wr.cell? ⟨b1, o1 + j * 4, none⟩ = some (.int .i64 x.kind) := hcx 0 _ rfl
      have t1 : wr.cell? ⟨b1, o1 + j * 4 + 1, none⟩ = some (.int .i64 x.src) := hcx 1 _ rfl
      have t2 : wr.cell? ⟨b1, o1 + j * 4 + 2, none⟩ = some (.int .i64 x.dst) := hcx 2 _ rfl
      have t3 : wr.cell? ⟨b1, o1 + j * 4 + 3, none⟩ = some (.int .i64 x.time) := hcx 3 _ rfl
      have HT := Lib.hid ht
      clear hcx hc1 ht q0 q1 g0 g1
      have h0j : (0 : Int) ≤ (j : Int) := by omega
      have hjI : (j : Int) < (tn : Int) := by omega
      have z1' : ∀ o, (wr.alloc o).cell? ⟨w.heap.size + 1 + 1, 1, none⟩ = some (.slice a j c) := fun o => by rw [World.cell?_alloc_lt wr o _ (by show w.heap.size + 1 + 1 < wr.heap.size; omega)]; exact z1
      have hO4 : (wr.alloc (.cells #[.int .i64 x.kind, .int .i64 x.src, .int .i64 x.dst, .int .i64 x.time] 105)).drew.ownsRow (w.heap.size + 3) 105 4 (.slice a j c) j (tcells (T.take j)) := own_fr O.out (((Fr.refl [] wr).alloc _).drew)
      have hnew : ∀ i u, ([.int .i64 x.kind, .int .i64 x.src, .int .i64 x.dst, .int .i64 x.time] : List Value)[i]? = some u → (wr.alloc (.cells #[.int .i64 x.kind, .int .i64 x.src, .int .i64 x.dst, .int .i64 x.time] 105)).drew.cell? ((⟨wr.heap.size, 0, none⟩ : Addr).add i) = some u := by
        intro i u hi
        rw [Addr_add, Nat.zero_add]
        exact ((Row.new wr [.int .i64 x.kind, .int .i64 x.src, .int .i64 x.dst, .int .i64 x.time] 105).cell i).trans hi
      have OA := Lib.hid hO4
      have NW := Lib.hid hnew
      have B1 := Lib.hid (show j + 1 ≤ maxLen by unfold maxLen; omega)
      have B2 := Lib.hid (show (j + 1) * 32 ≤ 140737488355328 by omega)
      have B3 := Lib.hid (show w.heap.size + 3 ≤ ((wr.alloc (.cells #[.int .i64 x.kind, .int .i64 x.src, .int .i64 x.dst, .int .i64 x.time] 105)).drew).heap.size by simp; omega)
      have B4 := Lib.hid (show ((wr.alloc (.cells #[.int .i64 x.kind, .int .i64 x.src, .int .i64 x.dst, .int .i64 x.time] 105)).drew).heap.size = wr.heap.size + 1 by simp)
      have ONE := Lib.hid (show ∀ u ∈ ([.int .i64 x.kind, .int .i64 x.src, .int .i64 x.dst, .int .i64 x.time] : List Value), u.oneCell' = true by simp [Value.oneCell'])
      have KF : ∀ w5, ((wr.alloc (.cells #[.int .i64 x.kind, .int .i64 x.src, .int .i64 x.dst, .int .i64 x.time] 105)).drew).grownBy w5 (Value.ownBlock (.slice a j c)) → Row w5 (w.heap.size + 1 + 1) [.slice ea en ec, .slice a j c] 31 ∧ Fr [w.heap.size + 1 + 1] W3 w5 := by
        intro w5 hg
        have hnb : ∀ y, y ∈ (Value.ownBlock (.slice a j c)).toList → w.heap.size + 3 ≤ y := by
          intro y hy
          simp only [Option.mem_toList] at hy
          exact (O.out.lt y hy).1
        have hf4 : Fr ((Value.ownBlock (.slice a j c)).toList) wr w5 := ((((Fr.refl [] wr).alloc _).drew).mono (by simp)).trans (Fr.of_grown hg _ (fun k hk => .inl (by simp [hk]))) (fun y hy => .inl hy)
        exact ⟨RO.out.fr hf4 (fun hy => by have := hnb _ hy; omega), F.out.trans hf4 (fun y hy => .inr (by have := hnb y hy; have := HS.out; omega))⟩
      have KF := Lib.hid KF
      clear hO4 hnew
      go_wp2_with fail
      go_region_law ((refine step_append_lies _ rfl _ _ 29 rfl (w.heap.size + 3) 105 i0 (.agg #[.int .i64 0, .int .i64 0, .int .i64 0, .int .i64 0]) 4 32 Try.underlying29 HI.out HZ0.out HZ1.out HZ2.out rfl (by decide) _ _ _ rfl OA.out ⟨wr.heap.size, 0, none⟩ 1 1 [.int .i64 x.kind, .int .i64 x.src, .int .i64 x.dst, .int .i64 x.time] rfl rfl NW.out ONE.out (by decide) B1.out B2.out B3.out _ B4.out ?_; intro g5 cap5 w5 hown5 hgrow5 hor5 hlt5; have z5 := (KF.out w5 hgrow5).1.cell 1; have y5 := (KF.out w5 hgrow5).1.frozen 1; simp only [List.getElem?_cons_succ, List.getElem?_cons_zero] at z5))
      all_goals
        have HT' := Lib.hid (by rw [HT.out, tcells_snoc] : tcells (T.take (j + 1)) = tcells (T.take j) ++ x.cells)
        have RO5 := Lib.hid ((KF.out w5 hgrow5).1.setCell 1 (.slice (some ⟨g5, 0, none⟩) (j + 1) cap5))
        have F5 := Lib.hid ((KF.out w5 hgrow5).2.setCell (p := ⟨w.heap.size + 1 + 1, 1, none⟩) (.inl (by simp)) (.slice (some ⟨g5, 0, none⟩) (j + 1) cap5))
        have O5 := Lib.hid (own_frS hown5 (((Fr.refl [w.heap.size + 1 + 1] w5).setCell (p := ⟨w.heap.size + 1 + 1, 1, none⟩) (.inl (by simp)) (.slice (some ⟨g5, 0, none⟩) (j + 1) cap5))) (by simp))
        clear hown5 hgrow5 hor5 hlt5 z5 y5
        go_wp2_with fail
        go_roundg (tn - (j + 1))
        case measure => omega
        case rel => exact ⟨j + 1, _, rfl, by omega, rfl, RO5.out, by rw [HT'.out]; exact O5.out, F5.out⟩
    · have hd : decide (j < tn) = false := decide_eq_false hjn
      obtain rfl : tn = j := by omega
      have hfull : T.take tn = T := List.take_of_length_le (by rw [HLE.out]; omega)
      rw [hfull] at O
      clear hfull
      have r2 := R2.out.fr F.out (by simp)
      have R2' := Lib.hid ((r2.setCell 0 (.slice ea en ec)).setCell 1 (.slice a tn c))
      have FF := Lib.hid ((((Fr.refl [w.heap.size + 1] wr).setCell (p := ⟨w.heap.size + 1, 0, none⟩) (.inl (by simp)) (.slice ea en ec)).setCell (p := ⟨w.heap.size + 1, 1, none⟩) (.inl (by simp)) (.slice a tn c)))
      clear r2
      go_wp2_with fail
      refine bodyPost_ret (results_cell1 rfl _ _ _ (g := w.heap.size + 1) (cs := [.slice ea en ec, .slice a tn c]) rfl agg31 size31 (fun j v hj => by rw [Nat.zero_add]; exact (R2'.out.cell j).trans hj)) rfl ?_
      exact ⟨a, c, rfl, ties_of_own (own_frS O.out FF.out (by simp)), FW.out.trans FF.out (by intro y hy; simp at hy; exact .inr (by omega))⟩
end Go.Proofs.Ytclkahggfdnpgaa
