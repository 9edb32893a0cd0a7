/- The document's heap: a weight. -/
import Derived.Test.YtpjmmhpkiepbmaaRH1
import Derived.Test.YtpjmmhpkiepbmaaHpP
set_option linter.unusedVariables false
set_option linter.unusedSimpArgs false
namespace Go.Proofs.Ytpjmmhpkiepbmaa
open Go.RowKit
theorem ret_ib {a b : Int} {c : Bool} (h : a = b) : Ending.returned (.tuple #[.int .i64 a, .bool c]) = Ending.returned (.tuple #[.int .i64 b, .bool c]) := by rw [h]
set_option maxRecDepth 100000 in
set_option maxHeartbeats 2000000 in
theorem rweight_any (b base : Nat) (s : Int) (L : List ItD) (v : Value) (id now : Int) (w : World) (h : RhAt w b base s L v) (hg : Good s L) (hnow : inI now) :
    Calls Try.prog 18 #[.pointer (some ⟨b, 0, none⟩), .int .i64 id, .int .i64 now] w fun e w' => e = .returned (.tuple #[.int .i64 (weightAt s L id now), .bool (hasI L id)]) ∧ Fr [] w w' := by
  have C := rplace_any b base s L v id w h hg.nd hg.few
  obtain ⟨a, c, rfl⟩ := rh_slice h
  cases hh : hasI L id with
  | false =>
    rw [placeI_not hh] at C
    have hw : weightAt s L id now = 0 := by
      unfold weightAt
      cases hp : posM L id with
      | none => rfl
      | some q => unfold hasI at hh; rw [hp] at hh; cases hh
    have HW := Lib.hid hw
    have D := Lib.hid C
    clear h hg C hh hw
    go_enter Try.func18, Try.ntmps18
    go_wp2_with fail
    refine D.out.mono ?_
    rintro e w1 ⟨rfl, rfl⟩
    go_wp2_with fail
    go_ret2
    exact ⟨ret_ib HW.out.symm, Fr.refl [] w⟩
  | true =>
    rw [placeI_at hh] at C
    obtain ⟨hj, hjx⟩ := atI_spec hh
    have hwt : weightAt s L id now = (L.getD (atI L id) default).base * s + clampN now - (L.getD (atI L id) default).since := by
      have h1 := posM_some hg.nd hj hjx
      unfold weightAt
      rw [h1]
      rfl
    obtain ⟨g, cap, C', hv, _, _, hR⟩ := own_row37 h.row (by omega)
    cases hv
    have c0 : w.cell? ⟨b, 0, none⟩ = some (.int .i64 s) := h.head.cell 0
    have c1 : w.cell? ⟨b, 1, none⟩ = some (.slice (some ⟨g, 0, none⟩) L.length c) := h.head.cell 1
    generalize hjj : atI L id = j at C hj hjx hwt
    have a1 : w.cell? ⟨g, j * 3 + 1, none⟩ = some (.int .i64 (L.getD j default).base) := row37_at hR hj 1 (by omega)
    have a2 : w.cell? ⟨g, j * 3 + 2, none⟩ = some (.int .i64 (L.getD j default).since) := row37_at hR hj 2 (by omega)
    have hok := hg.ok _ (getD_mem L j hj)
    have hst := hg.step
    have hfew := hg.few
    have D := Lib.hid C
    clear hjx hh C h hg hjj
    generalize L.getD j default = x at a1 a2 hwt hok
    have px := prod_in hst hok.1 hok.2.1
    have hxs := hok.2.2
    generalize hpx : x.base * s = p at px hwt
    have W1 : IntKind.i64.wrap (x.base * s) = p := by rw [hpx]; exact wrap_in (by omega)
    have j0 : (0 : Int) ≤ (j : Int) := by omega
    have j1 : (j : Int) < (L.length : Int) := by omega
    have hd : ∃ nw : Int, 0 ≤ nw ∧ nw ≤ 1099511627776 ∧ weightAt s L id now = p + (nw - x.since) ∧ ((decide (now < 0) = true ∧ nw = 0) ∨ (decide (now < 0) = false ∧ decide (now > 1099511627776) = true ∧ nw = 1099511627776) ∨ (decide (now < 0) = false ∧ decide (now > 1099511627776) = false ∧ nw = now)) := by
      unfold clampN at hwt
      by_cases h1 : now < 0
      · rw [if_pos h1] at hwt
        exact ⟨0, by omega, by omega, by omega, .inl ⟨decide_eq_true h1, rfl⟩⟩
      · rw [if_neg h1] at hwt
        by_cases h2 : now > 1099511627776
        · rw [if_pos h2] at hwt
          exact ⟨1099511627776, by omega, by omega, by omega, .inr (.inl ⟨decide_eq_false h1, decide_eq_true h2, rfl⟩)⟩
        · rw [if_neg h2] at hwt
          exact ⟨now, by omega, by omega, by omega, .inr (.inr ⟨decide_eq_false h1, decide_eq_false h2, rfl⟩)⟩
    obtain ⟨nw, hn0, hn1, hw, hd⟩ := hd
    have HW := Lib.hid hw
    clear hwt hw hst hok hpx
    rcases hd with ⟨d1, rfl⟩ | ⟨d1, d2, rfl⟩ | ⟨d1, d2, rfl⟩
    · have W2 : IntKind.i64.wrap (0 - x.since) = 0 - x.since := wrap_in (by omega)
      have W3 : IntKind.i64.wrap (p + (0 - x.since)) = p + (0 - x.since) := wrap_in (by omega)
      go_enter Try.func18, Try.ntmps18
      go_wp2_with fail
      refine D.out.mono ?_
      rintro e w1 ⟨rfl, rfl⟩
      go_wp2_with fail
      go_quiet (fail)
      clear W1 W2 W3
      go_wp2_with fail
      go_ret2
      exact ⟨ret_ib (by have := HW.out; omega), (Fr.refl [] w).drewN _⟩
    · have W2 : IntKind.i64.wrap (1099511627776 - x.since) = 1099511627776 - x.since := wrap_in (by omega)
      have W3 : IntKind.i64.wrap (p + (1099511627776 - x.since)) = p + (1099511627776 - x.since) := wrap_in (by omega)
      go_enter Try.func18, Try.ntmps18
      go_wp2_with fail
      refine D.out.mono ?_
      rintro e w1 ⟨rfl, rfl⟩
      go_wp2_with fail
      go_quiet (fail)
      clear W1 W2 W3
      go_wp2_with fail
      go_ret2
      exact ⟨ret_ib (by have := HW.out; omega), (Fr.refl [] w).drewN _⟩
    · have W2 : IntKind.i64.wrap (nw - x.since) = nw - x.since := wrap_in (by omega)
      have W3 : IntKind.i64.wrap (p + (nw - x.since)) = p + (nw - x.since) := wrap_in (by omega)
      go_enter Try.func18, Try.ntmps18
      go_wp2_with fail
      refine D.out.mono ?_
      rintro e w1 ⟨rfl, rfl⟩
      go_wp2_with fail
      go_quiet (fail)
      clear W1 W2 W3
      go_wp2_with fail
      go_ret2
      exact ⟨ret_ib (by have := HW.out; omega), (Fr.refl [] w).drewN _⟩
end Go.Proofs.Ytpjmmhpkiepbmaa
