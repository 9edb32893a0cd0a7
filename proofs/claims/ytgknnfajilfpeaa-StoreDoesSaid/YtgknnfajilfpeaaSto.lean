/- The store's memory and the contracts of its methods, in terms of plain functions on a plain state. -/
import Derived.Test.YtgknnfajilfpeaaProg
import Derived.Test.YtgknnfajilfpeaaMem
import Derived.StillTailTactics
import Derived.Deep.QuietTactic
import Derived.BigQuiet
set_option linter.unusedVariables false
set_option linter.unusedSimpArgs false
namespace Go.Proofs.Ytgknnfajilfpeaa
open Go.RowKit

/-- A store's plain state: blocks, all bytes, fuse, how much a torn write lays, is it down, whole writes. -/
structure StoS where
  n : Nat
  bs : List UInt8
  fuse : Int
  pre : Nat
  down : Bool
  writes : Int

/-- The store s lies at block b, its bytes in block l. -/
structure StoAt (w : World) (b l cap : Nat) (s : StoS) : Prop where
  head : Row w b [.slice (some ⟨l, 0, none⟩) s.n cap, .int .i64 s.fuse, .int .i64 s.pre, .bool s.down, .int .i64 s.writes] 51
  rest : ∃ C, Row w l (bcells s.bs ++ C) 55
  len : s.bs.length = 32 * s.n
  cap : s.n ≤ cap
  ne : b ≠ l
  few : s.n ≤ 256
  fuse0 : -1 ≤ s.fuse
  fuse1 : s.fuse ≤ 9223372036854775807
  pre1 : s.pre ≤ 32

def StoS.mayE (s : StoS) (i : Int) : Int := if s.down then 16 else if 0 ≤ i ∧ i < s.n then 0 else 3
def StoS.lay (s : StoS) (i : Int) (d : List UInt8) : List UInt8 := splice s.bs (i.toNat * 32) d
def StoS.write (s : StoS) (i : Int) (d : ByteArray) : Int × StoS :=
  if s.mayE i ≠ 0 then (s.mayE i, s)
  else if d.size ≠ 32 then (1, s)
  else if s.fuse = 0 then (16, { s with bs := s.lay i (d.data.toList.take s.pre), down := true, fuse := -1 })
  else (0, { s with bs := s.lay i d.data.toList, fuse := if s.fuse < 0 then -1 else s.fuse - 1, writes := wrap64 (s.writes + 1) })

theorem may_down (b l n cap : Nat) (i : Int) (w : World) (hd : w.cell? ⟨b, 3, none⟩ = some (.bool true)) :
    Calls Try.prog 25 #[.pointer (some ⟨b, 0, none⟩), .int .i64 i] w fun e w' => e = .returned (.int .i64 16) ∧ w = w' := by
  go_enter Try.func25, Try.ntmps25
  go_wp2
  go_ret
  exact ⟨rfl, rfl⟩
theorem may_in (b l n cap : Nat) (i : Int) (w : World) (hd : w.cell? ⟨b, 3, none⟩ = some (.bool false)) (hl : w.cell? ⟨b, 0, none⟩ = some (.slice (some ⟨l, 0, none⟩) n cap)) (h0 : 0 ≤ i) (h1 : i < n) :
    Calls Try.prog 25 #[.pointer (some ⟨b, 0, none⟩), .int .i64 i] w fun e w' => e = .returned (.int .i64 0) ∧ w = w' := by
  go_enter Try.func25, Try.ntmps25
  go_wp2
  go_ret
  exact ⟨rfl, rfl⟩
theorem may_out (b l n cap : Nat) (i : Int) (w : World) (hd : w.cell? ⟨b, 3, none⟩ = some (.bool false)) (hl : w.cell? ⟨b, 0, none⟩ = some (.slice (some ⟨l, 0, none⟩) n cap)) (h : i < 0 ∨ n ≤ i) :
    Calls Try.prog 25 #[.pointer (some ⟨b, 0, none⟩), .int .i64 i] w fun e w' => e = .returned (.int .i64 3) ∧ w = w' := by
  by_cases h0 : i < 0
  · clear h
    go_enter Try.func25, Try.ntmps25
    go_wp2
    go_ret
    exact ⟨rfl, rfl⟩
  · have h1 : n ≤ i := by omega
    clear h
    go_enter Try.func25, Try.ntmps25
    go_wp2
    go_ret
    exact ⟨rfl, rfl⟩
theorem may_any (b l cap : Nat) (s : StoS) (i : Int) (w : World) (h : StoAt w b l cap s) :
    Calls Try.prog 25 #[.pointer (some ⟨b, 0, none⟩), .int .i64 i] w fun e w' => e = .returned (.int .i64 (s.mayE i)) ∧ w = w' := by
  have hl := h.head.cell 0
  have hd := h.head.cell 3
  simp at hl hd
  unfold StoS.mayE
  cases hs : s.down with
  | true => rw [hs] at hd; exact may_down b l s.n cap i w hd
  | false =>
    rw [hs] at hd
    by_cases hi : 0 ≤ i ∧ i < s.n
    · rw [if_pos hi]; exact may_in b l s.n cap i w hd hl hi.1 hi.2
    · rw [if_neg hi]; exact may_out b l s.n cap i w hd hl (by omega)

theorem write_no (b l cap : Nat) (s : StoS) (i e0 : Int) (d : ByteArray) (w : World) (h : StoAt w b l cap s) (he : s.mayE i = e0) (hm : (e0 != 0) = true) :
    Calls Try.prog 11 #[.pointer (some ⟨b, 0, none⟩), .int .i64 i, .string d] w fun e w' => e = .returned (.int .i64 e0) ∧ w = w' := by
  have hc := may_any b l cap s i w h
  rw [he] at hc
  clear h he
  have hC := hc
  clear hc
  go_enter Try.func11, Try.ntmps11
  go_wp2_with (go_at_call 25; refine hC.mono ?_; rintro e w' ⟨rfl, rfl⟩)
  go_ret
  exact ⟨rfl, rfl⟩

theorem write_len (b l cap : Nat) (s : StoS) (i : Int) (d : ByteArray) (w : World) (h : StoAt w b l cap s) (he : s.mayE i = 0) (hm : d.size ≠ 32) :
    Calls Try.prog 11 #[.pointer (some ⟨b, 0, none⟩), .int .i64 i, .string d] w fun e w' => e = .returned (.int .i64 1) ∧ w = w' := by
  have hC := may_any b l cap s i w h
  rw [he] at hC
  clear h he
  have hm' : ((d.size : Int) != 32) = true := by rw [bne_iff_ne]; omega
  clear hm
  go_enter Try.func11, Try.ntmps11
  go_wp2_with (go_at_call 25; refine hC.mono ?_; rintro e w' ⟨rfl, rfl⟩)
  go_ret
  exact ⟨rfl, rfl⟩
/-- What a write leaves. -/
def Wrote (b l cap : Nat) (s : StoS) (n : Int) (w : World) (e : Ending) (w' : World) : Prop := e = .returned (.int .i64 n) ∧ StoAt w' b l cap s ∧ Fr [b, l] w w'
theorem write_torn (b l cap : Nat) (s : StoS) (i : Int) (d : ByteArray) (w : World) (h : StoAt w b l cap s) (he : s.mayE i = 0) (hm : d.size = 32) (hf : s.fuse = 0) :
    Calls Try.prog 11 #[.pointer (some ⟨b, 0, none⟩), .int .i64 i, .string d] w (Wrote b l cap (s.write i d).2 (s.write i d).1 w) := by
  have hC := may_any b l cap s i w h
  rw [he] at hC
  have hi : s.down = false ∧ 0 ≤ i ∧ i < s.n := by
    unfold StoS.mayE at he
    split at he
    · simp at he
    · split at he
      · rename_i h1 h2; exact ⟨by simpa using h1, h2⟩
      · simp at he
  obtain ⟨hd, h0, h1⟩ := hi
  have hm' : ((d.size : Int) != 32) = false := by rw [bne_eq_false_iff_eq]; omega
  have hl := h.head.cell 0
  have hfu := h.head.cell 1
  have hpr := h.head.cell 2
  have hpr1 := h.pre1
  simp [hf] at hl hfu hpr
  have hps : s.pre ≤ d.size := by omega
  have hE := Lib.hid he
  have HM := Lib.hid hm
  have hF := Lib.hid hf
  clear he hf hm
  go_enter Try.func11, Try.ntmps11
  go_wp2_with (go_at_call 25; refine hC.mono ?_; rintro e w' ⟨rfl, rfl⟩)
  go_still_tail 13, (by kernel_rfl)
  obtain ⟨C, hrow⟩ := h.rest
  have hlen := h.len
  refine wpList_copy_str (w := w.drew) rfl (.tmp 31) (.tmp 37) 53 9 rfl 5 Try.underlying53 (by kernel_rfl) l (i.toNat * 32) 32 32 (d.extract 0 s.pre) rfl rfl _ _ hrow.drew (by simp; omega) (by simp [bcells_length]; omega) ?_
  intro w1 hr1 hf1
  have hb1 := (h.head.drew.fr hf1 (by simpa using h.ne))
  have c0 := hb1.cell 0
  have c1 := hb1.cell 1
  have c3 := hb1.cell 3
  have f1 := hb1.frozen 1
  have f3 := hb1.frozen 3
  simp at c0 c1 c3
  go_wp2_with fail
  go_ret
  have hx : (d.extract 0 s.pre).data.toList = d.data.toList.take s.pre := by simp [ByteArray.data_extract]
  have hw : s.write i d = (16, { s with bs := s.lay i (d.data.toList.take s.pre), down := true, fuse := -1 }) := by
    simp [StoS.write, hE.out, HM.out, hF.out]
  rw [hw]
  refine ⟨rfl, ?_, ?_⟩
  · have hdl : d.data.toList.length = 32 := HM.out
    have htl : (d.data.toList.take s.pre).length = s.pre := by rw [List.length_take, hdl]; omega
    rw [hx, splice_bcells _ _ _ _ (by omega)] at hr1
    refine ⟨(hb1.setCell 3 (.bool true)).setCell 1 (.int .i64 (-1)), ⟨C, (hr1.setCell_other _ _ (Ne.symm h.ne)).setCell_other _ _ (Ne.symm h.ne)⟩, ?_, h.cap, h.ne, h.few, by simp, by simp, h.pre1⟩
    show (splice s.bs (i.toNat * 32) _).length = _
    rw [length_splice _ _ _ (by omega), h.len]
  · exact ((Fr.trans (T := [l]) (Fr.refl [b, l] w).drew hf1 (by simp)).setCell (by simp) _).setCell (by simp) _
theorem may_zero {s : StoS} {i : Int} (he : s.mayE i = 0) : s.down = false ∧ 0 ≤ i ∧ i < s.n := by
  unfold StoS.mayE at he
  split at he
  · simp at he
  · split at he
    · rename_i h1 h2; exact ⟨by simpa using h1, h2⟩
    · simp at he
theorem fused {w : World} {b l : Nat} {c0 c1 c2 c3 c4 : Value} {cur : List Value} (hh : Row w b [c0, c1, c2, c3, c4] 51) (hr : Row w l cur 55) (ne : b ≠ l) (v : Value) (X : List Value) :
    Row ((w.setCell ⟨b, 1, none⟩ v).setRow l X.toArray) b [c0, v, c2, c3, c4] 51 ∧ Row ((w.setCell ⟨b, 1, none⟩ v).setRow l X.toArray) l X 55 ∧ Fr [b, l] w ((w.setCell ⟨b, 1, none⟩ v).setRow l X.toArray) :=
  ⟨(hh.setCell 1 v).setRow_other _ ne, (hr.setCell_other ⟨b, 1, none⟩ v (Ne.symm ne)).setRow X, ((Fr.refl _ _).setCell (by simp) v).setRow (by simp) _⟩
theorem write_ok (b l cap : Nat) (s : StoS) (i : Int) (d : ByteArray) (w : World) (h : StoAt w b l cap s) (he : s.mayE i = 0) (hm : d.size = 32) (hf : s.fuse ≠ 0) :
    Calls Try.prog 11 #[.pointer (some ⟨b, 0, none⟩), .int .i64 i, .string d] w (Wrote b l cap (s.write i d).2 (s.write i d).1 w) := by
  have hC := may_any b l cap s i w h
  rw [he] at hC
  obtain ⟨hd, h0, h1⟩ := may_zero he
  have hm' : ((d.size : Int) != 32) = false := by rw [bne_eq_false_iff_eq]; omega
  have hf' : (s.fuse == 0) = false := by simpa using hf
  have hl := h.head.cell 0
  have hfu := h.head.cell 1
  have hfr := h.head.frozen 1
  simp at hl hfu
  have hE := Lib.hid he
  have HM := Lib.hid hm
  have hF := Lib.hid hf
  have hn0 := h.fuse0
  have hn1 := h.fuse1
  obtain ⟨C, hrow⟩ := h.rest
  have hlen := h.len
  have HL := Lib.hid hlen
  have hw : s.write i d = (0, { s with bs := s.lay i d.data.toList, fuse := if s.fuse < 0 then -1 else s.fuse - 1, writes := wrap64 (s.writes + 1) }) := by
    simp [StoS.write, he, hm, hf]
  have HW := Lib.hid hw
  have hm2 : d.size ≤ 32 := by omega
  have hfit : i.toNat * 32 + d.size ≤ (bcells s.bs ++ C).length := by simp [bcells_length]; omega
  have hsp : splice (bcells s.bs ++ C) (i.toNat * 32) (bcells d.data.toList) = bcells (s.lay i d.data.toList) ++ C := splice_bcells _ _ _ _ (by have : d.data.toList.length = 32 := hm; omega)
  have HSP := Lib.hid hsp
  have hls : (s.lay i d.data.toList).length = 32 * s.n := by
    unfold StoS.lay
    rw [length_splice _ _ _ (by have : d.data.toList.length = 32 := hm; omega), hlen]
  have HLS := Lib.hid hls
  clear he hf hm hlen hw hsp hls
  by_cases hneg : s.fuse < 0
  all_goals
    go_enter Try.func11, Try.ntmps11
    go_wp2_with (go_at_call 25; refine hC.mono ?_; rintro e w' ⟨rfl, rfl⟩)
    rw [run_copy_string Try.prog _ 53 9 3 5 l (i.toNat * 32) 32 32 d (bcells s.bs ++ C) 55 Try.underlying53 (by kernel_rfl) (hrow.setCell_other _ _ (Ne.symm h.ne)) hm2 hfit]
    rw [HSP.out]
  · obtain ⟨r1, r2, r3⟩ := fused h.head hrow h.ne (.int .i64 (-1)) (bcells (s.lay i d.data.toList) ++ C)
    generalize ((w.setCell ⟨b, 1, none⟩ (.int .i64 (-1))).setRow l _) = w2 at r1 r2 r3 ⊢
    have c4 := r1.cell 4
    have f4 := r1.frozen 4
    simp at c4
    go_wp2_with fail
    go_ret
    rw [HW.out]
    refine ⟨rfl, ⟨?_, ⟨C, r2.setCell_other _ _ (Ne.symm h.ne)⟩, HLS.out, h.cap, h.ne, h.few, ?_, ?_, h.pre1⟩, r3.setCell (by simp) _⟩
    · show Row _ b [_, .int .i64 (if s.fuse < 0 then -1 else s.fuse - 1), _, _, _] 51
      rw [if_pos hneg]
      exact r1.setCell 4 _
    · show -1 ≤ (if s.fuse < 0 then -1 else s.fuse - 1)
      rw [if_pos hneg]; omega
    · show (if s.fuse < 0 then -1 else s.fuse - 1) ≤ _
      rw [if_pos hneg]; omega
  · obtain ⟨r1, r2, r3⟩ := fused h.head hrow h.ne (.int .i64 (s.fuse - 1)) (bcells (s.lay i d.data.toList) ++ C)
    generalize ((w.setCell ⟨b, 1, none⟩ (.int .i64 (s.fuse - 1))).setRow l _) = w2 at r1 r2 r3 ⊢
    have c4 := r1.cell 4
    have f4 := r1.frozen 4
    simp at c4
    go_wp2_with fail
    go_ret
    rw [HW.out]
    refine ⟨rfl, ⟨?_, ⟨C, r2.setCell_other _ _ (Ne.symm h.ne)⟩, HLS.out, h.cap, h.ne, h.few, ?_, ?_, h.pre1⟩, r3.setCell (by simp) _⟩
    · show Row _ b [_, .int .i64 (if s.fuse < 0 then -1 else s.fuse - 1), _, _, _] 51
      rw [if_neg (by omega)]
      exact r1.setCell 4 _
    · show -1 ≤ (if s.fuse < 0 then -1 else s.fuse - 1)
      have := hF.out
      rw [if_neg (by omega)]; omega
    · show (if s.fuse < 0 then -1 else s.fuse - 1) ≤ _
      rw [if_neg (by omega)]; omega
theorem write_any (b l cap : Nat) (s : StoS) (i : Int) (d : ByteArray) (w : World) (h : StoAt w b l cap s) :
    Calls Try.prog 11 #[.pointer (some ⟨b, 0, none⟩), .int .i64 i, .string d] w (Wrote b l cap (s.write i d).2 (s.write i d).1 w) := by
  by_cases he : s.mayE i = 0
  · by_cases hm : d.size = 32
    · by_cases hf : s.fuse = 0
      · exact write_torn b l cap s i d w h he hm hf
      · exact write_ok b l cap s i d w h he hm hf
    · have hw : s.write i d = (1, s) := by simp [StoS.write, he, hm]
      rw [hw]
      exact (write_len b l cap s i d w h he hm).mono fun e w' ⟨h1, h2⟩ => ⟨h1, h2 ▸ h, h2 ▸ Fr.refl _ _⟩
  · have hw : s.write i d = (s.mayE i, s) := by simp [StoS.write, he]
    rw [hw]
    exact (write_no b l cap s i _ d w h rfl (by simpa using he)).mono fun e w' ⟨h1, h2⟩ => ⟨h1, h2 ▸ h, h2 ▸ Fr.refl _ _⟩
end Go.Proofs.Ytgknnfajilfpeaa
