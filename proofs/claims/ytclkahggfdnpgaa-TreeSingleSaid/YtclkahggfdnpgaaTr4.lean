/- The tree: slices cloned. -/
import Derived.Test.YtclkahggfdnpgaaTr3
import Derived.Lib.SliceRun
import Derived.OwnWalk
set_option linter.unusedVariables false
set_option linter.unusedSimpArgs false
namespace Go.Proofs.Ytclkahggfdnpgaa
open Go.RowKit
/-- The cells of n rows, one behind the other. -/
def flatC (C : Nat → List Value) : Nat → List Value
  | 0 => []
  | n + 1 => flatC C n ++ C n
theorem flatC_length {C : Nat → List Value} {k : Nat} (hk : ∀ i, (C i).length = k) : ∀ n, (flatC C n).length = n * k
  | 0 => by simp [flatC]
  | n + 1 => by rw [flatC, List.length_append, flatC_length hk n, hk, Nat.succ_mul]
theorem flatC_at {C : Nat → List Value} {k : Nat} (hk : ∀ i, (C i).length = k) : ∀ n i r, i < n → r < k → (flatC C n)[i * k + r]? = (C i)[r]?
  | 0, i, r, h, _ => absurd h (by omega)
  | n + 1, i, r, h, hr => by
    rw [flatC]
    by_cases hi : i < n
    · have h2 : i * k + k ≤ n * k := by rw [← Nat.succ_mul]; exact Nat.mul_le_mul_right k hi
      rw [List.getElem?_append_left (by rw [flatC_length hk]; omega)]
      exact flatC_at hk n i r hi hr
    · obtain rfl : i = n := by omega
      rw [List.getElem?_append_right (by rw [flatC_length hk]; omega), flatC_length hk, Nat.add_sub_cancel_left]
theorem flatC_one {C : Nat → List Value} (h : ∀ i, ∀ v ∈ C i, v.oneCell' = true) : ∀ n, ∀ v ∈ flatC C n, v.oneCell' = true
  | 0, v, hv => by simp [flatC] at hv
  | n + 1, v, hv => by
    rw [flatC, List.mem_append] at hv
    rcases hv with hv | hv
    · exact flatC_one h n v hv
    · exact h n v hv
theorem flatC_cell {w : World} {b o n k : Nat} {C : Nat → List Value} (hk : ∀ i, (C i).length = k) (h0 : 0 < k) (hc : ∀ i, i < n → ∀ j v, (C i)[j]? = some v → w.cell? ⟨b, o + i * k + j, none⟩ = some v) (j : Nat) (u : Value) (hj : (flatC C n)[j]? = some u) : w.cell? ⟨b, o + j, none⟩ = some u := by
  have hlt : j < n * k := by rw [← flatC_length hk n]; exact (List.getElem?_eq_some_iff.1 hj).1
  have h1 : j / k < n := Nat.div_lt_of_lt_mul (by rw [Nat.mul_comm]; exact hlt)
  have e : j = j / k * k + j % k := by rw [Nat.mul_comm]; exact (Nat.div_add_mod j k).symm
  have h2 := flatC_at hk n (j / k) (j % k) h1 (Nat.mod_lt _ h0)
  rw [← e, hj] at h2
  have h3 := hc (j / k) h1 (j % k) u h2.symm
  rw [Nat.add_assoc, ← e] at h3
  exact h3
theorem rowsB_of_own {w : World} {base : Nat} {e : TypeId} {v : Value} {n k : Nat} {C : Nat → List Value} (hk : ∀ i, (C i).length = k) (h : w.ownsRow base e k v n (flatC C n)) : ∃ a c, v = .slice a n c ∧ RowsB w base w.heap.size a n k C := by
  rcases h.2 with ⟨rfl, rfl⟩ | ⟨g, cap, cur, rfl, hb, hg, hn, hcm, hcs, ht⟩
  · exact ⟨none, 0, rfl, ⟨fun h => absurd h (by omega)⟩⟩
  · refine ⟨_, cap, rfl, ⟨fun h0 => ⟨g, 0, rfl, (Array.getElem?_eq_some_iff.1 hg).1, hb, (Array.getElem?_eq_some_iff.1 hg).1, fun i hi j v hj => ?_⟩⟩⟩
    have hjk : j < k := by rw [← hk i]; exact (List.getElem?_eq_some_iff.1 hj).1
    have h2 : i * k + k ≤ n * k := by rw [← Nat.succ_mul]; exact Nat.mul_le_mul_right k hi
    rw [cell_of_row w g _ _ _ _ hg, ← Array.getElem?_toList, Nat.zero_add, ← List.take_append_drop (n * k) cur.toList, ht, List.getElem?_append_left (by rw [flatC_length hk]; omega), flatC_at hk n i j hi hjk]
    exact hj
theorem info_ex {P : Program} {t s b : Nat} (h : (P.info? t).map (fun i => (i.zero.map (·.cells.size), i.size, i.bytes)) = some (some s, s, b)) : ∃ i z, P.info? t = some i ∧ i.zero = some z ∧ i.size = s ∧ i.bytes = b ∧ z.cells.size = s := by
  rcases hx : P.info? t with _ | i
  · rw [hx] at h; simp at h
  · rw [hx] at h
    simp only [Option.map_some, Option.some.injEq, Prod.mk.injEq] at h
    obtain ⟨h1, h2, h3⟩ := h
    rcases hz : i.zero with _ | z
    · rw [hz] at h1; simp at h1
    · rw [hz] at h1
      exact ⟨i, z, rfl, hz, h2, h3, by simpa using h1⟩
/-- Rows told in a block of their own. -/
def ClonedB (n k : Nat) (C : Nat → List Value) (w : World) (e : Ending) (w' : World) : Prop := ∃ a c, e = .returned (.slice a n c) ∧ RowsB w' w.heap.size w'.heap.size a n k C ∧ Fr [] w w'
set_option maxHeartbeats 2000000 in
set_option maxRecDepth 100000 in
theorem clone72_some (ad : Addr) (n c : Nat) (C : Nat → List Value) (w : World) (hk : ∀ i, (C i).length = 6) (h1 : ∀ i, ∀ v ∈ C i, v.oneCell' = true) (hn : n ≤ 100000) (hc : ∀ j u, (flatC C n)[j]? = some u → w.cell? (ad.add j) = some u) :
    Calls Try.prog 72 #[.slice (some ad) n c] w (ClonedB n 6 C w) := by
  have q51 : ∀ (w : World) (a : Option Addr) (n c n' c' : Nat), (binOp .eql 22 (.slice a n c) (.slice none n' c')).run Try.prog w = .ok (.bool a.isNone) w := fun w a n c n' c' => Lib.run_eql_slice_nil w _ _ a n c n' c' Try.underlying22
  obtain ⟨i0, z0, hi, hz0, hz1, hz2, hz3⟩ := info_ex (show (Try.prog.info? 104).map (fun i => (i.zero.map (·.cells.size), i.size, i.bytes)) = some (some 6, 6, 64) by kernel_rfl)
  have HI := Lib.hid hi
  have HZ0 := Lib.hid hz0
  have HZ1 := Lib.hid hz1
  have HZ2 := Lib.hid hz2
  have HZ3 := Lib.hid hz3
  have HK := Lib.hid hk
  have HL := Lib.hid (flatC_length hk n)
  have HO1 := Lib.hid (flatC_one h1 n)
  have HC := Lib.hid hc
  clear hi hz0 hz1 hz2 hz3 hk h1 hc
  go_enter Try.func72, Try.ntmps72
  go_wp2_with (at_builtin; refine wpList_append_own _ rfl _ _ 22 rfl w.heap.size 104 i0 z0 6 64 Try.underlying22 HI.out HZ0.out HZ1.out HZ2.out HZ3.out (by decide) _ _ _ rfl (World.ownsRow_made w #[] 0 (Nat.le_refl _) (Nat.zero_le _) rfl) ad n c (flatC C n) rfl ?qc1 ?qc2 ?qc3 ?qc4 ?qc5 ?qc6 ?_)
  case qc1 => exact HL.out
  case qc2 =>
    intro j u hj
    exact Lib.cell?_alloc_some _ (HC.out j u hj)
  case qc3 => exact HO1.out
  case qc4 => unfold maxLen; omega
  case qc5 => omega
  case qc6 => simp
  intro v' w1 hown hgrow hnil
  have HO := Lib.hid hown
  have HG := Lib.hid hgrow
  clear hown hgrow hnil
  obtain ⟨a', c', hv', hb⟩ := rowsB_of_own (C := C) (n := n) HK.out (by simpa using HO.out)
  have HB := Lib.hid hb
  have HF := Lib.hid (((Fr.refl [] w).alloc _).trans (T := [w.heap.size]) (Fr.of_grown HG.out _ (fun k hk => .inl (by simp [Value.ownBlock] at hk; simp [hk]))) (fun y hy => .inr (by simp at hy; omega)))
  clear HO HG hb
  subst hv'
  go_wp2_with fail
  go_ret
  exact ⟨a', c', rfl, HB.out, HF.out⟩
theorem clone72_any (a : Option Addr) (n c : Nat) (C : Nat → List Value) (w : World) (hk : ∀ i, (C i).length = 6) (h1 : ∀ i, ∀ v ∈ C i, v.oneCell' = true) (hn : n ≤ 100000) (hr : RowsAt w a n 6 C) :
    Calls Try.prog 72 #[.slice a n c] w (ClonedB n 6 C w) := by
  by_cases h0 : 0 < n
  · obtain ⟨b, o, rfl, hb, hc⟩ := hr.at_ h0
    exact clone72_some _ n c C w hk h1 hn (fun j u hj => by rw [Addr_add]; exact flatC_cell hk (by decide) hc j u hj)
  · obtain rfl : n = 0 := by omega
    rcases a with _ | ad
    · have q51 : ∀ (w : World) (a : Option Addr) (n c n' c' : Nat), (binOp .eql 22 (.slice a n c) (.slice none n' c')).run Try.prog w = .ok (.bool a.isNone) w := fun w a n c n' c' => Lib.run_eql_slice_nil w _ _ a n c n' c' Try.underlying22
      clear hr
      go_enter Try.func72, Try.ntmps72
      go_wp2_with fail
      go_ret
      exact ⟨none, 0, rfl, ⟨fun h => absurd h (by omega)⟩, Fr.refl _ _⟩
    · exact clone72_some ad 0 c C w hk h1 hn (fun j u hj => by simp [flatC] at hj)
set_option maxHeartbeats 2000000 in
set_option maxRecDepth 100000 in
theorem clone73_some (ad : Addr) (n c : Nat) (C : Nat → List Value) (w : World) (hk : ∀ i, (C i).length = 4) (h1 : ∀ i, ∀ v ∈ C i, v.oneCell' = true) (hn : n ≤ 100000) (hc : ∀ j u, (flatC C n)[j]? = some u → w.cell? (ad.add j) = some u) :
    Calls Try.prog 73 #[.slice (some ad) n c] w (ClonedB n 4 C w) := by
  have q51 : ∀ (w : World) (a : Option Addr) (n c n' c' : Nat), (binOp .eql 23 (.slice a n c) (.slice none n' c')).run Try.prog w = .ok (.bool a.isNone) w := fun w a n c n' c' => Lib.run_eql_slice_nil w _ _ a n c n' c' Try.underlying23
  obtain ⟨i0, z0, hi, hz0, hz1, hz2, hz3⟩ := info_ex (show (Try.prog.info? 57).map (fun i => (i.zero.map (·.cells.size), i.size, i.bytes)) = some (some 4, 4, 32) by kernel_rfl)
  have HI := Lib.hid hi
  have HZ0 := Lib.hid hz0
  have HZ1 := Lib.hid hz1
  have HZ2 := Lib.hid hz2
  have HZ3 := Lib.hid hz3
  have HK := Lib.hid hk
  have HL := Lib.hid (flatC_length hk n)
  have HO1 := Lib.hid (flatC_one h1 n)
  have HC := Lib.hid hc
  clear hi hz0 hz1 hz2 hz3 hk h1 hc
  go_enter Try.func73, Try.ntmps73
  go_wp2_with (at_builtin; refine wpList_append_own _ rfl _ _ 23 rfl w.heap.size 57 i0 z0 4 32 Try.underlying23 HI.out HZ0.out HZ1.out HZ2.out HZ3.out (by decide) _ _ _ rfl (World.ownsRow_made w #[] 0 (Nat.le_refl _) (Nat.zero_le _) rfl) ad n c (flatC C n) rfl ?qc1 ?qc2 ?qc3 ?qc4 ?qc5 ?qc6 ?_)
  case qc1 => exact HL.out
  case qc2 =>
    intro j u hj
    exact Lib.cell?_alloc_some _ (HC.out j u hj)
  case qc3 => exact HO1.out
  case qc4 => unfold maxLen; omega
  case qc5 => omega
  case qc6 => simp
  intro v' w1 hown hgrow hnil
  have HO := Lib.hid hown
  have HG := Lib.hid hgrow
  clear hown hgrow hnil
  obtain ⟨a', c', hv', hb⟩ := rowsB_of_own (C := C) (n := n) HK.out (by simpa using HO.out)
  have HB := Lib.hid hb
  have HF := Lib.hid (((Fr.refl [] w).alloc _).trans (T := [w.heap.size]) (Fr.of_grown HG.out _ (fun k hk => .inl (by simp [Value.ownBlock] at hk; simp [hk]))) (fun y hy => .inr (by simp at hy; omega)))
  clear HO HG hb
  subst hv'
  go_wp2_with fail
  go_ret
  exact ⟨a', c', rfl, HB.out, HF.out⟩
theorem clone73_any (a : Option Addr) (n c : Nat) (C : Nat → List Value) (w : World) (hk : ∀ i, (C i).length = 4) (h1 : ∀ i, ∀ v ∈ C i, v.oneCell' = true) (hn : n ≤ 100000) (hr : RowsAt w a n 4 C) :
    Calls Try.prog 73 #[.slice a n c] w (ClonedB n 4 C w) := by
  by_cases h0 : 0 < n
  · obtain ⟨b, o, rfl, hb, hc⟩ := hr.at_ h0
    exact clone73_some _ n c C w hk h1 hn (fun j u hj => by rw [Addr_add]; exact flatC_cell hk (by decide) hc j u hj)
  · obtain rfl : n = 0 := by omega
    rcases a with _ | ad
    · have q51 : ∀ (w : World) (a : Option Addr) (n c n' c' : Nat), (binOp .eql 23 (.slice a n c) (.slice none n' c')).run Try.prog w = .ok (.bool a.isNone) w := fun w a n c n' c' => Lib.run_eql_slice_nil w _ _ a n c n' c' Try.underlying23
      clear hr
      go_enter Try.func73, Try.ntmps73
      go_wp2_with fail
      go_ret
      exact ⟨none, 0, rfl, ⟨fun h => absurd h (by omega)⟩, Fr.refl _ _⟩
    · exact clone73_some ad 0 c C w hk h1 hn (fun j u hj => by simp [flatC] at hj)
set_option maxHeartbeats 2000000 in
set_option maxRecDepth 100000 in
theorem clone83_some (ad : Addr) (n c : Nat) (C : Nat → List Value) (w : World) (hk : ∀ i, (C i).length = 3) (h1 : ∀ i, ∀ v ∈ C i, v.oneCell' = true) (hn : n ≤ 100000) (hc : ∀ j u, (flatC C n)[j]? = some u → w.cell? (ad.add j) = some u) :
    Calls Try.prog 83 #[.slice (some ad) n c] w (ClonedB n 3 C w) := by
  have q51 : ∀ (w : World) (a : Option Addr) (n c n' c' : Nat), (binOp .eql 26 (.slice a n c) (.slice none n' c')).run Try.prog w = .ok (.bool a.isNone) w := fun w a n c n' c' => Lib.run_eql_slice_nil w _ _ a n c n' c' Try.underlying26
  obtain ⟨i0, z0, hi, hz0, hz1, hz2, hz3⟩ := info_ex (show (Try.prog.info? 52).map (fun i => (i.zero.map (·.cells.size), i.size, i.bytes)) = some (some 3, 3, 24) by kernel_rfl)
  have HI := Lib.hid hi
  have HZ0 := Lib.hid hz0
  have HZ1 := Lib.hid hz1
  have HZ2 := Lib.hid hz2
  have HZ3 := Lib.hid hz3
  have HK := Lib.hid hk
  have HL := Lib.hid (flatC_length hk n)
  have HO1 := Lib.hid (flatC_one h1 n)
  have HC := Lib.hid hc
  clear hi hz0 hz1 hz2 hz3 hk h1 hc
  go_enter Try.func83, Try.ntmps83
  go_wp2_with (at_builtin; refine wpList_append_own _ rfl _ _ 26 rfl w.heap.size 52 i0 z0 3 24 Try.underlying26 HI.out HZ0.out HZ1.out HZ2.out HZ3.out (by decide) _ _ _ rfl (World.ownsRow_made w #[] 0 (Nat.le_refl _) (Nat.zero_le _) rfl) ad n c (flatC C n) rfl ?qc1 ?qc2 ?qc3 ?qc4 ?qc5 ?qc6 ?_)
  case qc1 => exact HL.out
  case qc2 =>
    intro j u hj
    exact Lib.cell?_alloc_some _ (HC.out j u hj)
  case qc3 => exact HO1.out
  case qc4 => unfold maxLen; omega
  case qc5 => omega
  case qc6 => simp
  intro v' w1 hown hgrow hnil
  have HO := Lib.hid hown
  have HG := Lib.hid hgrow
  clear hown hgrow hnil
  obtain ⟨a', c', hv', hb⟩ := rowsB_of_own (C := C) (n := n) HK.out (by simpa using HO.out)
  have HB := Lib.hid hb
  have HF := Lib.hid (((Fr.refl [] w).alloc _).trans (T := [w.heap.size]) (Fr.of_grown HG.out _ (fun k hk => .inl (by simp [Value.ownBlock] at hk; simp [hk]))) (fun y hy => .inr (by simp at hy; omega)))
  clear HO HG hb
  subst hv'
  go_wp2_with fail
  go_ret
  exact ⟨a', c', rfl, HB.out, HF.out⟩
theorem clone83_any (a : Option Addr) (n c : Nat) (C : Nat → List Value) (w : World) (hk : ∀ i, (C i).length = 3) (h1 : ∀ i, ∀ v ∈ C i, v.oneCell' = true) (hn : n ≤ 100000) (hr : RowsAt w a n 3 C) :
    Calls Try.prog 83 #[.slice a n c] w (ClonedB n 3 C w) := by
  by_cases h0 : 0 < n
  · obtain ⟨b, o, rfl, hb, hc⟩ := hr.at_ h0
    exact clone83_some _ n c C w hk h1 hn (fun j u hj => by rw [Addr_add]; exact flatC_cell hk (by decide) hc j u hj)
  · obtain rfl : n = 0 := by omega
    rcases a with _ | ad
    · have q51 : ∀ (w : World) (a : Option Addr) (n c n' c' : Nat), (binOp .eql 26 (.slice a n c) (.slice none n' c')).run Try.prog w = .ok (.bool a.isNone) w := fun w a n c n' c' => Lib.run_eql_slice_nil w _ _ a n c n' c' Try.underlying26
      clear hr
      go_enter Try.func83, Try.ntmps83
      go_wp2_with fail
      go_ret
      exact ⟨none, 0, rfl, ⟨fun h => absurd h (by omega)⟩, Fr.refl _ _⟩
    · exact clone83_some ad 0 c C w hk h1 hn (fun j u hj => by simp [flatC] at hj)
end Go.Proofs.Ytclkahggfdnpgaa
