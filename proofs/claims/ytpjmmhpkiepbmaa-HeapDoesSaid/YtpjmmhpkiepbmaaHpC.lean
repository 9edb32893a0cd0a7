/- slices.Clone of items. -/
import Derived.Test.YtpjmmhpkiepbmaaHp12
import Derived.Lib.SliceRun
import Derived.OwnWalk
set_option linter.unusedVariables false
set_option linter.unusedSimpArgs false
namespace Go.Proofs.Ytpjmmhpkiepbmaa
open Go.RowKit
theorem clone_nil (n c : Nat) (w : World) : Calls Try.prog 28 #[.slice none n c] w fun e w' => e = .returned (.slice none 0 0) ∧ w = w' := by
  have q51 : ∀ (w : World) (a : Option Addr) (n c n' c' : Nat), (binOp .eql 51 (.slice a n c) (.slice none n' c')).run Try.prog w = .ok (.bool a.isNone) w := fun w a n c n' c' => Lib.run_eql_slice_nil w _ _ a n c n' c' Try.underlying51
  go_enter Try.func28, Try.ntmps28
  go_wp2_with fail
  go_ret
  exact ⟨rfl, rfl⟩
def ClonedI (w : World) (n : Nat) (L : List ItD) (e : Ending) (w' : World) : Prop := ∃ v', e = .returned v' ∧ w'.ownsRow w.heap.size 32 3 v' n (icells L) ∧ v' ≠ .slice none 0 0 ∧ Fr [] w w'
set_option maxHeartbeats 2000000 in
set_option maxRecDepth 100000 in
theorem clone_some (b off n c : Nat) (L : List ItD) (w : World) (hl : L.length = n) (hn : n ≤ 1000) (hc : ∀ j u, (icells L)[j]? = some u → w.cell? ⟨b, off + j, none⟩ = some u) :
    Calls Try.prog 28 #[.slice (some ⟨b, off, none⟩) n c] w (ClonedI w n L) := by
  have q51 : ∀ (w : World) (a : Option Addr) (n c n' c' : Nat), (binOp .eql 51 (.slice a n c) (.slice none n' c')).run Try.prog w = .ok (.bool a.isNone) w := fun w a n c n' c' => Lib.run_eql_slice_nil w _ _ a n c n' c' Try.underlying51
  obtain ⟨i0, hi, hz0, hz1, hz2⟩ := info_parts infoI
  have HI := Lib.hid hi
  have HZ0 := Lib.hid hz0
  have HZ1 := Lib.hid hz1
  have HZ2 := Lib.hid hz2
  have HL := Lib.hid (show (icells L).length = n * 3 by rw [icells_length, hl])
  have HC := Lib.hid hc
  clear hi hz0 hz1 hz2 hl hc
  go_enter Try.func28, Try.ntmps28
  go_wp2_with (at_builtin; refine wpList_append_own _ rfl _ _ 51 rfl w.heap.size 32 i0 (.agg #[.int .i64 0, .int .i64 0, .int .i64 0]) 3 24 Try.underlying51 HI.out HZ0.out HZ1.out HZ2.out rfl (by decide) _ _ _ rfl (World.ownsRow_made w #[] 0 (Nat.le_refl _) (Nat.zero_le _) rfl) ⟨b, off, none⟩ n c (icells L) rfl ?qc1 ?qc2 ?qc3 ?qc4 ?qc5 ?qc6 ?_)
  case qc1 => exact HL.out
  case qc2 =>
    intro j u hj
    rw [Addr_add]
    exact Lib.cell?_alloc_some _ (HC.out j u hj)
  case qc3 => exact icells_one L
  case qc4 => unfold maxLen; omega
  case qc5 => omega
  case qc6 => simp
  intro v' w1 hown hgrow hnil
  have HO := Lib.hid hown
  have HG := Lib.hid hgrow
  have HN := Lib.hid hnil
  clear hown hgrow hnil
  go_wp2_with fail
  go_ret
  refine ⟨v', rfl, by simpa using HO.out, HN.out, ?_⟩
  exact (((Fr.refl [] w).alloc _).trans (T := [w.heap.size]) (Fr.of_grown HG.out _ (fun k hk => .inl (by simp [Value.ownBlock] at hk; simp [hk]))) (fun y hy => .inr (by simp at hy; omega)))
end Go.Proofs.Ytpjmmhpkiepbmaa
