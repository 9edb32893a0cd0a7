/- strings.Builder, written with texts: its contracts over this translation. -/
import Derived.Test.YtghahdddjpofdaaProg
import Derived.Test.YtghahdddjpofdaaMem
import Derived.Lib.Builder
import Derived.Lib.UnsafeStr
import Derived.Deep.QuietTactic
import Derived.BigQuiet
import Derived.Lib.AppendStr
set_option linter.unusedVariables false
set_option linter.unusedSimpArgs false
namespace Go.Proofs.Ytghahdddjpofdaa
open Go.RowKit

theorem bcells_eq (l : List UInt8) : bcells l = Lib.byteCells l := rfl
theorem fr_of_setCell (w : World) (b i : Nat) (v : Value) : Fr [b] w (w.setCell ⟨b, i, none⟩ v) := (Fr.refl _ _).setCell (by simp) v

theorem depthBT : (Try.prog.info? 45).map (fun i => i.size) = some 2 := by kernel_rfl
theorem noescape (x : Value) (w : World) : (callFunc 24 #[x]).run Try.prog w = .ok (.value x) w := by kernel_rfl
theorem check_any (B b : Nat) (bs : List Value) (w : World) (h : Lib.IsBuilder 45 5 B b bs w) :
    Calls Try.prog 22 #[.pointer (some ⟨b, 0, none⟩)] w fun e w' => e = .returned (.tuple #[]) ∧ Lib.BuilderAt 45 5 B b (.pointer (some ⟨b, 0, none⟩)) bs w' ∧ Fr [b] w w' := by
  obtain ⟨j, hj⟩ : ∃ j, Try.prog.info? 45 = some j := by
    cases hq : Try.prog.info? 45 with
    | none => have := depthBT; simp [hq] at this
    | some j => exact ⟨j, rfl⟩
  have hjs : j.size ≠ 0 := by have := depthBT; simp [hj] at this; omega
  rcases h with h | h
  · have c0 := h.cell0
    have f0 := h.frozen0
    have hsh := h.shape
    have hto := Lib.run_to_unsafe (P := Try.prog) (src := 43) (dst := 52) (e := 45) (cells := 2) w ⟨b, 0, none⟩ Try.underlying43 Try.underlying52 hj hjs hsh (by simp)
    have hfrom := Lib.run_from_unsafe (P := Try.prog) (src := 52) (dst := 43) (u := 45) (e := 45) (cells := 2) w ⟨b, 0, none⟩ Try.underlying52 Try.underlying43 hj hsh (by kernel_rfl)
    have hno := noescape (.pointer (some ⟨b, 0, none⟩)) w
    have hu := h.used (.pointer (some ⟨b, 0, none⟩))
    have H := Lib.hid hu
    clear hu hj hjs hsh h
    go_enter Try.func22, Try.ntmps22
    go_wp2
    go_end0
    exact ⟨rfl, H.out, fr_of_setCell _ _ _ _⟩
  · have c0 := h.cell0
    have hne := Lib.run_neq_ptr_same (P := Try.prog) w ⟨b, 0, none⟩ Try.underlying43 hj
    have H := Lib.hid h
    clear h hj hjs
    go_enter Try.func22, Try.ntmps22
    go_wp2
    go_end0
    exact ⟨rfl, H.out, Fr.refl _ _⟩
theorem infoU8b : (Try.prog.info? 5).map (fun i => (i.zero, i.size, i.bytes)) = some (some (.int .u8 0), 1, 1) := by kernel_rfl
theorem cellsU8 : Try.prog.cellsOf 5 = 1 := by kernel_rfl

theorem bstring_any (B b : Nat) (l : List UInt8) (w : World) (h : Lib.IsBuilder 45 5 B b (bcells l) w) (h0 : l ≠ []) :
    Calls Try.prog 20 #[.pointer (some ⟨b, 0, none⟩)] w fun e w' => e = .returned (.string ⟨l.toArray⟩) ∧ Below B w w' := by
  obtain ⟨p, hB, v, hbk, hown, hne⟩ : ∃ p, Lib.BuilderAt 45 5 B b p (Lib.byteCells l) w := by
    rcases h with h | h
    · exact ⟨_, h⟩
    · exact ⟨_, h⟩
  have hl0 : l.length ≠ 0 := by simpa using h0
  rw [Lib.byteCells_length] at hown
  obtain ⟨g, cap, cur, rfl, hbg, hg, hnc, hcm, hcs, htake⟩ : ∃ g cap cur, v = .slice (some ⟨g, 0, none⟩) l.length cap ∧ B ≤ g ∧ w.heap[g]? = some (.cells cur 5 (0, 0)) ∧ l.length ≤ cap ∧ cap ≤ maxLen ∧ cur.size = cap * 1 ∧ cur.toList.take (l.length * 1) = Lib.byteCells l := by
    rcases hown.2 with ⟨_, hz⟩ | ⟨g, cap, cur, hv, r⟩
    · exact absurd hz hl0
    · exact ⟨g, cap, cur, hv, r⟩
  have c1 : w.drew.cell? ⟨b, 1, none⟩ = some (.slice (some ⟨g, 0, none⟩) l.length cap) := by
    have : w.drew.heap[b]? = some (.cells #[p, .slice (some ⟨g, 0, none⟩) l.length cap] 45 (0, 0)) := hbk
    rw [Lib.cell_of_heap this]; rfl
  have hSD : (Builtin.unsafeSliceData_ #[34] 51 #[.slice (some ⟨g, 0, none⟩) l.length cap]).run Try.prog w.drew = .ok (.pointer (some ⟨g, 0, none⟩)) w.drew :=
    Lib.run_unsafeSliceData_row _ _ _ _ _ _ (by omega)
  have hUS : (Builtin.unsafeString_ #[51, 3] 9 #[.pointer (some ⟨g, 0, none⟩), .int .i64 l.length]).run Try.prog w.drew = .ok (.string ⟨l.toArray⟩) (w.drew.freeze ⟨g, 0, none⟩ l.length) := by
    refine Lib.run_unsafeString_row w.drew 51 3 9 5 Try.underlying51 cellsU8 g cur.size (by have hg' : w.drew.heap[g]? = some (.cells cur 5 (0, 0)) := hg; simp [World.shape?, hg']) l h0 (by omega) (by unfold maxLen at hcm; omega) ?_
    intro j x hx
    have := hown.cells (g := g) rfl j (.int .u8 x.toNat) (by simp [Lib.byteCells, hx])
    exact this
  have HB := Lib.hid hbg
  clear h hbk hown hne hg hnc hcm hcs htake h0 hl0 hbg
  go_enter Try.func20, Try.ntmps20
  go_wp2
  go_region
  all_goals
    go_wp2
    go_ret
    exact ⟨rfl, Lib.below_freeze (Below.drew (Below.refl B w)) (p := ⟨g, 0, none⟩) HB.out _⟩

/-- A text is written at its end. -/
theorem bwrites_any (B b : Nat) (bs : List Value) (s : ByteArray) (w : World) (h : Lib.IsBuilder 45 5 B b bs w)
    (hlen : bs.length + s.size ≤ 140737488355328) (hBw : B ≤ w.heap.size) :
    Calls Try.prog 19 #[.pointer (some ⟨b, 0, none⟩), .string s] w fun e w' => e = .returned (.tuple #[.int .i64 s.size, .nilIface]) ∧ Lib.BuilderAt 45 5 B b (.pointer (some ⟨b, 0, none⟩)) (bs ++ bcells s.data.toList) w' ∧ Below B w w' := by
  have hC := check_any B b bs w h
  have hB : B ≤ b := by rcases h with h | h <;> exact h.1
  have hltb : b < w.heap.size := by rcases h with h | h <;> exact h.lt
  obtain ⟨i0, hi, hz0, hz1, hz2⟩ := info_parts infoU8b
  have HI := Lib.hid hi
  have HZ0 := Lib.hid hz0
  have HZ1 := Lib.hid hz1
  have HZ2 := Lib.hid hz2
  clear h hi hz0 hz1 hz2
  go_enter Try.func19, Try.ntmps19
  go_wp2_with (go_at_call 22; refine hC.mono ?_)
  rintro e w1 ⟨rfl, h1', hf1⟩
  obtain ⟨_, v, hbk, hown, hne⟩ := h1'
  have c1 : w1.cell? ⟨b, 1, none⟩ = some v := by rw [Lib.cell_of_heap hbk]; rfl
  have hs1 := hf1.size
  have HO := Lib.hid hown
  have HNE := Lib.hid hne
  have HBK := Lib.hid hbk
  have HF1 := Lib.hid hf1
  clear hown hne hbk hC hf1
  go_wp2_with (at_builtin; refine Lib.wpList_append_own_string _ rfl _ _ 34 9 rfl B 5 i0 Try.underlying34 Try.underlying9 HI.out HZ0.out HZ1.out HZ2.out _ _ _ rfl HO.out s rfl ?c3 ?c4 ?c5 ?_)
  case c3 => unfold maxLen; omega
  case c4 => omega
  case c5 => omega
  intro v' w2 hown' hgrow _
  have hltb1 : b < w1.heap.size := by omega
  have hb2 : w2.heap[b]? = some (.cells #[.pointer (some ⟨b, 0, none⟩), v] 45 (0, 0)) := by
    rw [hgrow.block b hltb1 (fun e => HNE.out e.symm)]
    exact HBK.out
  have d1 : w2.cell? ⟨b, 1, none⟩ = some v := by rw [Lib.cell_of_heap hb2]; rfl
  have f1 : w2.frozen? ⟨b, 1, none⟩ = false := Lib.frozen_of_heap hb2 1
  obtain ⟨ao, n', cap, rfl⟩ : ∃ ao n' cap, v' = .slice ao n' cap := by
    rcases hown'.2 with ⟨hv, _⟩ | ⟨g, cap, cur, hv, _⟩
    · exact ⟨_, _, _, hv⟩
    · exact ⟨_, _, _, hv⟩
  have HO' := Lib.hid hown'
  have HB2 := Lib.hid hb2
  have HG := Lib.hid hgrow
  clear hown' hb2 hgrow
  go_wp2
  go_ret2
  refine ⟨rfl, ?_, ?_⟩
  · exact Lib.BuilderAt.put (T := 45) (e := 5) hB HB2.out (bs' := bs ++ bcells s.data.toList) (by
      rw [List.length_append, bcells_length]
      exact HO'.out) (by decide)
  · exact ((HF1.out.below (B := B) (by simpa using hB) hBw).grown HG.out (by omega) (fun k hk => (HO.out.lt k hk).1)).setCell (p := ⟨b, 1, none⟩) hB _
theorem bstring_zero (b : Nat) (w : World) (h : w.cell? ⟨b, 1, none⟩ = some (.slice none 0 0)) :
    Calls Try.prog 20 #[.pointer (some ⟨b, 0, none⟩)] w fun e w' => e = .returned (.string ⟨#[]⟩) ∧ Fr [] w w' := by
  have c1 : w.drew.cell? ⟨b, 1, none⟩ = some (.slice none 0 0) := h
  have hSD : (Builtin.unsafeSliceData_ #[34] 51 #[.slice none 0 0]).run Try.prog w.drew = .ok (.pointer none) w.drew := by kernel_rfl
  have hUS : (Builtin.unsafeString_ #[51, 3] 9 #[.pointer none, .int .i64 0]).run Try.prog w.drew = .ok (.string ⟨#[]⟩) w.drew := by kernel_rfl
  clear h
  go_enter Try.func20, Try.ntmps20
  go_wp2
  go_region
  all_goals
    go_wp2
    go_ret
    exact ⟨rfl, (Fr.refl _ _).drewN 1⟩
end Go.Proofs.Ytghahdddjpofdaa
