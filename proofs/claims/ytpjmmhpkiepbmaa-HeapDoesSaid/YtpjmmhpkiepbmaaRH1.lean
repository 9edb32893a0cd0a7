/- The document's heap: made; an item's place; who is there; which comes ahead; the first one. -/
import Derived.Test.YtpjmmhpkiepbmaaHp15
import Derived.Deep.QuietTactic
import Derived.BigQuiet
set_option linter.unusedVariables false
set_option linter.unusedSimpArgs false
namespace Go.Proofs.Ytpjmmhpkiepbmaa
open Go.RowKit
/-- The document's heap at block b; its row lies from base on. -/
structure RhAt (w : World) (b base : Nat) (s : Int) (L : List ItD) (v : Value) : Prop where
  head : Row w b [.int .i64 s, v] 49
  row : w.ownsRow base 37 3 v L.length (icells L)
  bl : b < base
theorem RhAt.frS {w w' : World} {b base : Nat} {s : Int} {L : List ItD} {v : Value} {S : List Nat} (h : RhAt w b base s L v) (f : Fr S w w') (hb : b ∉ S) (hv : ∀ y, v.ownBlock = some y → y ∉ S) : RhAt w' b base s L v :=
  ⟨h.head.fr f hb, own_keep h.row f hv, h.bl⟩
theorem RhAt.fr {w w' : World} {b base : Nat} {s : Int} {L : List ItD} {v : Value} (h : RhAt w b base s L v) (f : Fr [] w w') : RhAt w' b base s L v := h.frS f (by simp) (by simp)
theorem own_row37 {w : World} {base : Nat} {v : Value} {L : List ItD} (h : w.ownsRow base 37 3 v L.length (icells L)) (h0 : 0 < L.length) :
    ∃ g cap C, v = .slice (some ⟨g, 0, none⟩) L.length cap ∧ base ≤ g ∧ L.length ≤ cap ∧ Row w g (icells L ++ C) 37 := by
  rcases h.2 with ⟨_, hz⟩ | ⟨g, cap, cur, rfl, hb, hg, hn, hcm, hcs, ht⟩
  · omega
  · have he : icells L ++ cur.toList.drop (L.length * 3) = cur.toList := by rw [← ht, List.take_append_drop]
    exact ⟨g, cap, cur.toList.drop (L.length * 3), rfl, hb, hn, by rw [he]; exact hg⟩
theorem rh_slice {w : World} {b base : Nat} {s : Int} {L : List ItD} {v : Value} (h : RhAt w b base s L v) : ∃ a c, v = .slice a L.length c := by
  rcases h.row.2 with ⟨rfl, h0⟩ | ⟨g, cap, cur, rfl, _⟩
  · exact ⟨_, _, by rw [h0]⟩
  · exact ⟨_, _, rfl⟩
theorem row37_at {w : World} {g : Nat} {L : List ItD} {C : List Value} {t : TypeId} (hR : Row w g (icells L ++ C) t) {d : Nat} (h : d < L.length) (r : Nat) (hr : r < 3) : w.cell? ⟨g, d * 3 + r, none⟩ = (L.getD d default).cells[r]? := by
  rw [hR.cell, List.getElem?_append_left (by rw [icells_length]; omega), icells_at L d r h hr]
theorem rnew_bad (s : Int) (w : World) (hs : ¬ stepOk s) : Calls Try.prog 9 #[.int .i64 s] w fun e w' => e = .returned (.tuple #[.pointer none, .int .i64 1]) ∧ w = w' := by
  unfold stepOk at hs
  by_cases h1 : s < 1
  · have d1 : decide (s < 1) = true := decide_eq_true h1
    clear hs h1
    go_enter Try.func9, Try.ntmps9
    go_wp2_with fail
    go_ret2
    exact ⟨rfl, rfl⟩
  · have d1 : decide (s < 1) = false := decide_eq_false h1
    have d2 : decide (s > 1048576) = true := decide_eq_true (by omega)
    clear hs h1
    go_enter Try.func9, Try.ntmps9
    go_wp2_with fail
    go_ret2
    exact ⟨rfl, rfl⟩
theorem rnew_good (s : Int) (w : World) (hs : stepOk s) : Calls Try.prog 9 #[.int .i64 s] w fun e w' => e = .returned (.tuple #[.pointer (some ⟨w.heap.size, 0, none⟩), .int .i64 0]) ∧ RhAt w' w.heap.size (w.heap.size + 1) s [] (.slice none 0 0) ∧ Fr [] w w' ∧ w'.heap.size = w.heap.size + 1 := by
  have d1 : decide (s < 1) = false := decide_eq_false (by have := hs.1; omega)
  have d2 : decide (s > 1048576) = false := decide_eq_false (by have := hs.2; omega)
  have HR := Lib.hid (Row.new w [.int .i64 s, .slice none 0 0] 49)
  have F := Lib.hid ((Fr.refl [] w).alloc (.cells #[.int .i64 s, .slice none 0 0] 49))
  clear hs
  go_enter Try.func9, Try.ntmps9
  go_wp2_with fail
  go_ret2
  exact ⟨rfl, ⟨HR.out, World.ownsRow_nil _ _ _ _, by omega⟩, F.out, by simp⟩
def placeI (L : List ItD) (id : Int) : Int := (posM L id).getD (-1)
theorem placeI_some {L : List ItD} (hnd : idsNd L) {j : Nat} (hj : j < L.length) {id : Int} (h : (L.getD j default).id = id) : placeI L id = j := by
  unfold placeI
  rw [posM_some hnd hj h]
  rfl
theorem placeI_none {L : List ItD} {id : Int} (h : ∀ j, j < L.length → (L.getD j default).id ≠ id) : placeI L id = -1 := by
  unfold placeI
  rw [posM_none h]
  rfl
theorem placeI_has (L : List ItD) (id : Int) : decide (placeI L id ≥ 0) = hasI L id := by
  unfold placeI hasI
  cases hp : posM L id with
  | none => rfl
  | some q =>
    obtain ⟨j, rfl, _⟩ := posM_find hp
    exact decide_eq_true (by show (0 : Int) ≤ (j : Int); omega)
theorem placeI_at {L : List ItD} {id : Int} (h : hasI L id = true) : placeI L id = atI L id := by
  unfold placeI atI
  obtain ⟨q, hq⟩ := Option.isSome_iff_exists.1 (show (posM L id).isSome = true from h)
  obtain ⟨j, rfl, _⟩ := posM_find hq
  rw [hq]
  rfl
theorem placeI_not {L : List ItD} {id : Int} (h : hasI L id = false) : placeI L id = -1 := by
  unfold placeI
  cases hp : posM L id with
  | none => rfl
  | some q => unfold hasI at h; rw [hp] at h; cases h
theorem rplace_any (b base : Nat) (s : Int) (L : List ItD) (v : Value) (id : Int) (w : World) (h : RhAt w b base s L v) (hnd : idsNd L) (hl : L.length ≤ 1000) :
    Calls Try.prog 25 #[.pointer (some ⟨b, 0, none⟩), .int .i64 id] w fun e w' => e = .returned (.int .i64 (placeI L id)) ∧ w = w' := by
  obtain ⟨a, c, rfl⟩ := rh_slice h
  have c1 : w.cell? ⟨b, 1, none⟩ = some (.slice a L.length c) := h.head.cell 1
  have H := Lib.hid h
  have HND := Lib.hid hnd
  clear h hnd
  go_enter Try.func25, Try.ntmps25
  go_wp2_with fail
  go_loopg [5] L.length (fun k i wr => ∃ j : Nat, k = L.length - j ∧ j ≤ L.length ∧ i = .int .i64 j ∧ (∀ q, q < j → (L.getD q default).id ≠ id) ∧ w = wr)
  case atStart => exact ⟨0, rfl, by omega, rfl, (fun q hq => by omega), rfl⟩
  case round =>
    obtain ⟨j, rfl, hj, rfl, hno, rfl⟩ := hrel
    have HNO := Lib.hid hno
    clear hno
    by_cases hlt : j < L.length
    · have d1 : decide (j < L.length) = true := decide_eq_true hlt
      obtain ⟨g, cap, C, hv, _, _, hR⟩ := own_row37 H.out.row (by omega)
      cases hv
      have a0 : w.cell? ⟨g, j * 3, none⟩ = some (.int .i64 (L.getD j default).id) := row37_at hR hlt 0 (by omega)
      have hfd : ∀ n : Int, (L.getD j default).id = n → n = id → placeI L id = j := fun n h1 h2 => placeI_some HND.out hlt (h1.trans h2)
      have hnx : ∀ n : Int, (L.getD j default).id = n → n ≠ id → ∀ q, q < j + 1 → (L.getD q default).id ≠ id := by
        intro n h1 h2 q hq
        by_cases hqj : q = j
        · subst hqj; rw [h1]; exact h2
        · exact HNO.out q (by omega)
      have FD := Lib.hid hfd
      have NX := Lib.hid hnx
      clear hfd hnx hR
      generalize hn : (L.getD j default).id = n at *
      cases he : (n == id) with
      | true =>
        have HP := Lib.hid (FD.out n rfl (beq_iff_eq.1 he))
        clear hn
        go_wp2_with fail
        go_ret
        exact ⟨ret_i HP.out.symm, rfl⟩
      | false =>
        have HP := Lib.hid (NX.out n rfl (beq_eq_false_iff_ne.1 he))
        clear hn
        go_wp2_with fail
        go_roundg (L.length - (j + 1))
        case measure => omega
        case rel => exact ⟨j + 1, rfl, by omega, rfl, HP.out, rfl⟩
    · have d1 : decide (j < L.length) = false := decide_eq_false hlt
      have HP := Lib.hid (placeI_none (L := L) (id := id) (fun q hq => HNO.out q (by omega)))
      clear hlt
      go_wp2_with fail
      go_ret
      exact ⟨ret_i HP.out.symm, rfl⟩
theorem rhas_any (b base : Nat) (s : Int) (L : List ItD) (v : Value) (id : Int) (w : World) (h : RhAt w b base s L v) (hnd : idsNd L) (hl : L.length ≤ 1000) :
    Calls Try.prog 21 #[.pointer (some ⟨b, 0, none⟩), .int .i64 id] w fun e w' => e = .returned (.bool (hasI L id)) ∧ w = w' := by
  have C := rplace_any b base s L v id w h hnd hl
  have e1 := placeI_has L id
  rw [← e1]
  generalize placeI L id = p at C ⊢
  clear h hnd e1
  go_enter Try.func21, Try.ntmps21
  go_wp2_with fail
  refine C.mono ?_
  rintro e w1 ⟨rfl, rfl⟩
  go_wp2_with fail
  go_ret
  exact ⟨rfl, rfl⟩
set_option maxRecDepth 100000 in
set_option maxHeartbeats 1000000 in
theorem rahead_any (b : Nat) (s : Int) (x y : ItD) (w : World) (hs : w.cell? ⟨b, 0, none⟩ = some (.int .i64 s)) (hok : stepOk s) (hx : x.ok) (hy : y.ok) :
    Calls Try.prog 24 #[.pointer (some ⟨b, 0, none⟩), x.val, y.val] w fun e w' => e = .returned (.bool (aheadB s x y)) ∧ Fr [] w w' := by
  have hr := ((Fr.refl [] w).alloc (.cells #[.int .i64 x.id, .int .i64 x.base, .int .i64 x.since] 37)).alloc (.cells #[.int .i64 y.id, .int .i64 y.base, .int .i64 y.since] 37)
  have c0 := cell_fr hs hr
  have HR := Lib.hid hr
  have px := prod_in hok hx.1 hx.2.1
  have py := prod_in hok hy.1 hy.2.1
  have hxs := hx.2.2
  have hys := hy.2.2
  have wx : weight s x = x.base * s - x.since := rfl
  have wy : weight s y = y.base * s - y.since := rfl
  have hab : aheadB s x y = (decide (weight s x > weight s y) || (decide (weight s x = weight s y) && decide (x.id < y.id))) := rfl
  rw [wx, wy] at hab
  generalize hpx : x.base * s = p at px hab
  generalize hpy : y.base * s = q at py hab
  have W1 : IntKind.i64.wrap (x.base * s) = p := by rw [hpx]; exact wrap_in (by omega)
  have W2 : IntKind.i64.wrap (y.base * s) = q := by rw [hpy]; exact wrap_in (by omega)
  have W3 : IntKind.i64.wrap (p - x.since) = p - x.since := wrap_in (by omega)
  have W4 : IntKind.i64.wrap (q - y.since) = q - y.since := wrap_in (by omega)
  have HAB := Lib.hid hab
  clear hr wx wy hab hpx hpy px py hxs hys hs hok hx hy
  simp only [ItD.val]
  go_enter Try.func24, Try.ntmps24
  go_wp2_with fail
  go_quiet (fail)
  go_wp2_with fail
  go_quiet (fail)
  clear W1 W2 W3 W4
  generalize hX : p - x.since = X at HAB ⊢
  generalize hY : q - y.since = Y at HAB ⊢
  clear hX hY
  by_cases h2 : X = Y
  · have d2 : (X == Y) = true := beq_iff_eq.2 h2
    have HA := Lib.hid (show aheadB s x y = decide (x.id < y.id) by rw [HAB.out, decide_eq_true h2, decide_eq_false (by omega)]; simp)
    clear h2
    go_wp2_with fail
    go_ret
    exact ⟨ret_bool HA.out.symm, HR.out.drewN _⟩
  · have d2 : (X == Y) = false := beq_eq_false_iff_ne.2 h2
    have HA := Lib.hid (show aheadB s x y = decide (X > Y) by rw [HAB.out, decide_eq_false h2]; simp)
    clear h2
    go_wp2_with fail
    go_ret
    exact ⟨ret_bool HA.out.symm, HR.out.drewN _⟩
theorem agg37 (w : World) : (isAgg 37).run Try.prog w = .ok true w := by kernel_rfl
theorem size37 : (Try.prog.info? 37).map (·.size) = some 3 := by kernel_rfl
theorem rpeek_any (b base : Nat) (s : Int) (L : List ItD) (v : Value) (w : World) (h : RhAt w b base s L v) (hl : L.length ≤ 1000) :
    Calls Try.prog 13 #[.pointer (some ⟨b, 0, none⟩)] w fun e w' => e = .returned (.tuple #[(topX L).val, .bool (nonB L)]) ∧ Fr [] w w' := by
  have hf := (Fr.refl [] w).alloc (.cells #[.int .i64 0, .int .i64 0, .int .i64 0] 37)
  by_cases h0 : 0 < L.length
  · obtain ⟨g, cap, C, rfl, hgb, _, hR⟩ := own_row37 h.row h0
    have c1 : (w.alloc (.cells #[.int .i64 0, .int .i64 0, .int .i64 0] 37)).cell? ⟨b, 1, none⟩ = some (.slice (some ⟨g, 0, none⟩) L.length cap) := cell_fr (h.head.cell 1) hf
    have hbw : b < w.heap.size := h.head.lt
    have hgw : g < w.heap.size := hR.lt
    have a0 : (w.alloc (.cells #[.int .i64 0, .int .i64 0, .int .i64 0] 37)).cell? ⟨g, 0, none⟩ = some (.int .i64 (topX L).id) := by have := cell_fr (row37_at hR h0 0 (by omega)) hf; rw [Nat.zero_mul, Nat.zero_add] at this; exact this
    have a1 : (w.alloc (.cells #[.int .i64 0, .int .i64 0, .int .i64 0] 37)).cell? ⟨g, 1, none⟩ = some (.int .i64 (topX L).base) := by have := cell_fr (row37_at hR h0 1 (by omega)) hf; rw [Nat.zero_mul, Nat.zero_add] at this; exact this
    have a2 : (w.alloc (.cells #[.int .i64 0, .int .i64 0, .int .i64 0] 37)).cell? ⟨g, 2, none⟩ = some (.int .i64 (topX L).since) := by have := cell_fr (row37_at hR h0 2 (by omega)) hf; rw [Nat.zero_mul, Nat.zero_add] at this; exact this
    have de : ((L.length : Int) == 0) = false := by rw [beq_eq_false_iff_ne]; omega
    have hl1 : (0 : Int) < (L.length : Int) := by omega
    have hnb : nonB L = true := decide_eq_true h0
    rw [hnb]
    generalize topX L = x at a0 a1 a2 ⊢
    have HX := Lib.hid (Row.new w [.int .i64 x.id, .int .i64 x.base, .int .i64 x.since] 37)
    have HF := Lib.hid ((Fr.refl [] w).alloc (.cells #[.int .i64 x.id, .int .i64 x.base, .int .i64 x.since] 37))
    clear h hR hf hgb hnb
    go_enter Try.func13, Try.ntmps13
    go_wp2_with fail
    refine bodyPost_ret (results_cell2 rfl _ _ _ (g := w.heap.size) (cs := [.int .i64 x.id, .int .i64 x.base, .int .i64 x.since]) rfl agg37 size37 (fun j v hj => by rw [Nat.zero_add]; exact (HX.out.cell j).trans hj)) rfl ?_
    exact ⟨rfl, HF.out⟩
  · obtain rfl : L = [] := List.eq_nil_of_length_eq_zero (by omega)
    obtain ⟨a, c, rfl⟩ := rh_slice h
    have c1 : (w.alloc (.cells #[.int .i64 0, .int .i64 0, .int .i64 0] 37)).cell? ⟨b, 1, none⟩ = some (.slice a 0 c) := cell_fr (h.head.cell 1) hf
    have HX := Lib.hid (Row.new w [.int .i64 0, .int .i64 0, .int .i64 0] 37)
    have HF := Lib.hid hf
    clear h hf h0
    go_enter Try.func13, Try.ntmps13
    go_wp2_with fail
    refine bodyPost_ret (results_cell2 rfl _ _ _ (g := w.heap.size) (cs := [.int .i64 0, .int .i64 0, .int .i64 0]) rfl agg37 size37 (fun j v hj => by rw [Nat.zero_add]; exact (HX.out.cell j).trans hj)) rfl ?_
    exact ⟨rfl, HF.out⟩
end Go.Proofs.Ytpjmmhpkiepbmaa
