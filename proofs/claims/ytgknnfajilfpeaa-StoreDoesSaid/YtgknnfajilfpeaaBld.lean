/- strings.Builder: its contracts over this translation. -/
import Derived.Test.YtgknnfajilfpeaaProg
import Derived.Test.YtgknnfajilfpeaaMem
import Derived.Lib.Builder
import Derived.Lib.UnsafeStr
import Derived.Deep.QuietTactic
import Derived.BigQuiet
set_option linter.unusedVariables false
set_option linter.unusedSimpArgs false
namespace Go.Proofs.Ytgknnfajilfpeaa
open Go.RowKit

theorem bcells_eq (l : List UInt8) : bcells l = Lib.byteCells l := rfl
theorem fr_of_setCell (w : World) (b i : Nat) (v : Value) : Fr [b] w (w.setCell ⟨b, i, none⟩ v) := (Fr.refl _ _).setCell (by simp) v

theorem depthBT : (Try.prog.info? 58).map (fun i => i.size) = some 2 := by kernel_rfl
theorem noescape (x : Value) (w : World) : (callFunc 30 #[x]).run Try.prog w = .ok (.value x) w := by kernel_rfl
theorem check_any (B b : Nat) (bs : List Value) (w : World) (h : Lib.IsBuilder 58 5 B b bs w) :
    Calls Try.prog 29 #[.pointer (some ⟨b, 0, none⟩)] w fun e w' => e = .returned (.tuple #[]) ∧ Lib.BuilderAt 58 5 B b (.pointer (some ⟨b, 0, none⟩)) bs w' ∧ Fr [b] w w' := by
  obtain ⟨j, hj⟩ : ∃ j, Try.prog.info? 58 = some j := by
    cases hq : Try.prog.info? 58 with
    | none => have := depthBT; simp [hq] at this
    | some j => exact ⟨j, rfl⟩
  have hjs : j.size ≠ 0 := by have := depthBT; simp [hj] at this; omega
  rcases h with h | h
  · have c0 := h.cell0
    have f0 := h.frozen0
    have hsh := h.shape
    have hto := Lib.run_to_unsafe (P := Try.prog) (src := 56) (dst := 65) (e := 58) (cells := 2) w ⟨b, 0, none⟩ Try.underlying56 Try.underlying65 hj hjs hsh (by simp)
    have hfrom := Lib.run_from_unsafe (P := Try.prog) (src := 65) (dst := 56) (u := 58) (e := 58) (cells := 2) w ⟨b, 0, none⟩ Try.underlying65 Try.underlying56 hj hsh (by kernel_rfl)
    have hno := noescape (.pointer (some ⟨b, 0, none⟩)) w
    have hu := h.used (.pointer (some ⟨b, 0, none⟩))
    have H := Lib.hid hu
    clear hu hj hjs hsh h
    go_enter Try.func29, Try.ntmps29
    go_wp2
    go_end0
    exact ⟨rfl, H.out, fr_of_setCell _ _ _ _⟩
  · have c0 := h.cell0
    have hne := Lib.run_neq_ptr_same (P := Try.prog) w ⟨b, 0, none⟩ Try.underlying56 hj
    have H := Lib.hid h
    clear h hj hjs
    go_enter Try.func29, Try.ntmps29
    go_wp2
    go_end0
    exact ⟨rfl, H.out, Fr.refl _ _⟩
theorem infoU8 : (Try.prog.info? 5).map (fun i => (i.zero, i.size, i.bytes)) = some (some (.int .u8 0), 1, 1) := by kernel_rfl
theorem cellsU8 : Try.prog.cellsOf 5 = 1 := by kernel_rfl

theorem bstring_any (B b : Nat) (l : List UInt8) (w : World) (h : Lib.IsBuilder 58 5 B b (bcells l) w) (h0 : l ≠ []) :
    Calls Try.prog 27 #[.pointer (some ⟨b, 0, none⟩)] w fun e w' => e = .returned (.string ⟨l.toArray⟩) ∧ Below B w w' := by
  obtain ⟨p, hB, v, hbk, hown, hne⟩ : ∃ p, Lib.BuilderAt 58 5 B b p (Lib.byteCells l) w := by
    rcases h with h | h
    · exact ⟨_, h⟩
    · exact ⟨_, h⟩
  have hl0 : l.length ≠ 0 := by simpa using h0
  rw [Lib.byteCells_length] at hown
  obtain ⟨g, cap, cur, rfl, hbg, hg, hnc, hcm, hcs, htake⟩ : ∃ g cap cur, v = .slice (some ⟨g, 0, none⟩) l.length cap ∧ B ≤ g ∧ w.heap[g]? = some (.cells cur 5 (0, 0)) ∧ l.length ≤ cap ∧ cap ≤ maxLen ∧ cur.size = cap * 1 ∧ cur.toList.take (l.length * 1) = Lib.byteCells l := by
    rcases hown.2 with ⟨_, hz⟩ | ⟨g, cap, cur, hv, r⟩
    · exact absurd hz hl0
    · exact ⟨g, cap, cur, hv, r⟩
  have c1 : w.drew.cell? ⟨b, 1, none⟩ = some (.slice (some ⟨g, 0, none⟩) l.length cap) := by
    have : w.drew.heap[b]? = some (.cells #[p, .slice (some ⟨g, 0, none⟩) l.length cap] 58 (0, 0)) := hbk
    rw [Lib.cell_of_heap this]; rfl
  have hSD : (Builtin.unsafeSliceData_ #[53] 64 #[.slice (some ⟨g, 0, none⟩) l.length cap]).run Try.prog w.drew = .ok (.pointer (some ⟨g, 0, none⟩)) w.drew :=
    Lib.run_unsafeSliceData_row _ _ _ _ _ _ (by omega)
  have hUS : (Builtin.unsafeString_ #[64, 3] 9 #[.pointer (some ⟨g, 0, none⟩), .int .i64 l.length]).run Try.prog w.drew = .ok (.string ⟨l.toArray⟩) (w.drew.freeze ⟨g, 0, none⟩ l.length) := by
    refine Lib.run_unsafeString_row w.drew 64 3 9 5 Try.underlying64 cellsU8 g cur.size (by have hg' : w.drew.heap[g]? = some (.cells cur 5 (0, 0)) := hg; simp [World.shape?, hg']) l h0 (by omega) (by unfold maxLen at hcm; omega) ?_
    intro j x hx
    have := hown.cells (g := g) rfl j (.int .u8 x.toNat) (by simp [Lib.byteCells, hx])
    exact this
  have HB := Lib.hid hbg
  clear h hbk hown hne hg hnc hcm hcs htake h0 hl0 hbg
  go_enter Try.func27, Try.ntmps27
  go_wp2
  go_region
  all_goals
    go_wp2
    go_ret
    exact ⟨rfl, Lib.below_freeze (Below.drew (Below.refl B w)) (p := ⟨g, 0, none⟩) HB.out _⟩

/-- Bytes are written at its end. -/
theorem bwrite_any (B b : Nat) (bs : List Value) (ad : Addr) (m c : Nat) (news : List Value) (w : World) (h : Lib.IsBuilder 58 5 B b bs w)
    (hl : news.length = m) (hnews : ∀ j u, news[j]? = some u → w.cell? (ad.add j) = some u) (had : ad.block ≠ b) (h1 : ∀ u ∈ news, u.oneCell' = true)
    (hlen : bs.length + m ≤ 140737488355328) (hBw : B ≤ w.heap.size) :
    Calls Try.prog 26 #[.pointer (some ⟨b, 0, none⟩), .slice (some ad) m c] w fun e w' => e = .returned (.tuple #[.int .i64 m, .nilIface]) ∧ Lib.BuilderAt 58 5 B b (.pointer (some ⟨b, 0, none⟩)) (bs ++ news) w' ∧ Below B w w' := by
  have hC := check_any B b bs w h
  have hB : B ≤ b := by rcases h with h | h <;> exact h.1
  have hltb : b < w.heap.size := by rcases h with h | h <;> exact h.lt
  have HL := Lib.hid hl
  obtain ⟨i0, hi, hz0, hz1, hz2⟩ := info_parts infoU8
  have HI := Lib.hid hi
  have HZ0 := Lib.hid hz0
  have HZ1 := Lib.hid hz1
  have HZ2 := Lib.hid hz2
  have HN := Lib.hid hnews
  clear h hl hi hz0 hz1 hz2 hnews
  go_enter Try.func26, Try.ntmps26
  go_wp2_with (go_at_call 29; refine hC.mono ?_)
  rintro e w1 ⟨rfl, h1', hf1⟩
  obtain ⟨_, v, hbk, hown, hne⟩ := h1'
  have c1 : w1.cell? ⟨b, 1, none⟩ = some v := by rw [Lib.cell_of_heap hbk]; rfl
  have hs1 := hf1.size
  have hnews1 : ∀ j u, news[j]? = some u → w1.cell? (ad.add j) = some u := fun j u hj => by
    have hcj := HN.out j u hj
    have hb : (ad.add j).block = ad.block := by unfold Addr.add; split <;> rfl
    have hlt := block_lt_of_cell hcj
    rw [World.cell?_of_block (hf1.block _ hlt (by rw [hb]; simpa using had))]
    exact hcj
  have HN1 := Lib.hid hnews1
  have HO := Lib.hid hown
  have HNE := Lib.hid hne
  have HBK := Lib.hid hbk
  have HF1 := Lib.hid hf1
  clear hnews1 hown hne hbk hC hf1
  go_wp2_with (at_builtin; refine wpList_append_own _ rfl _ _ 53 rfl B 5 i0 (.int .u8 0) 1 1 Try.underlying53 HI.out HZ0.out HZ1.out HZ2.out rfl (by decide) _ _ _ rfl HO.out ad m c news rfl (by have := HL.out; omega) HN1.out h1 ?c3 ?c4 ?c5 ?_)
  case c3 => unfold maxLen; omega
  case c4 => omega
  case c5 => omega
  intro v' w2 hown' hgrow _
  have hltb1 : b < w1.heap.size := by omega
  have hb2 : w2.heap[b]? = some (.cells #[.pointer (some ⟨b, 0, none⟩), v] 58 (0, 0)) := by
    rw [hgrow.block b hltb1 (fun e => HNE.out e.symm)]
    exact HBK.out
  have d1 : w2.cell? ⟨b, 1, none⟩ = some v := by rw [Lib.cell_of_heap hb2]; rfl
  have f1 : w2.frozen? ⟨b, 1, none⟩ = false := Lib.frozen_of_heap hb2 1
  obtain ⟨ao, n', cap, rfl⟩ : ∃ ao n' cap, v' = .slice ao n' cap := by
    rcases hown'.2 with ⟨hv, _⟩ | ⟨g, cap, cur, hv, _⟩
    · exact ⟨_, _, _, hv⟩
    · exact ⟨_, _, _, hv⟩
  have HO' := Lib.hid hown'
  have HB2 := Lib.hid hb2
  have HG := Lib.hid hgrow
  clear hown' hb2 hgrow
  go_wp2
  go_ret2
  refine ⟨rfl, ?_, ?_⟩
  · exact Lib.BuilderAt.put (T := 58) (e := 5) hB HB2.out (bs' := bs ++ news) (by simpa [HL.out] using HO'.out) (by decide)
  · exact ((HF1.out.below (B := B) (by simpa using hB) hBw).grown HG.out (by omega) (fun k hk => (HO.out.lt k hk).1)).setCell (p := ⟨b, 1, none⟩) hB _
end Go.Proofs.Ytgknnfajilfpeaa
