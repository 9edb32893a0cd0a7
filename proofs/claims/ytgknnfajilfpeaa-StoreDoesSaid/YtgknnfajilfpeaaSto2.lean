/- The store's other methods. -/
import Derived.Test.YtgknnfajilfpeaaSto
import Derived.Deep.DeepCutAuto
import Derived.Deep.LoopGhost
set_option linter.unusedVariables false
set_option linter.unusedSimpArgs false
namespace Go.Proofs.Ytgknnfajilfpeaa
open Go.RowKit

theorem down_any (b l cap : Nat) (s : StoS) (w : World) (h : StoAt w b l cap s) :
    Calls Try.prog 19 #[.pointer (some ⟨b, 0, none⟩)] w fun e w' => e = .returned (.bool s.down) ∧ w = w' := by
  have hc := h.head.cell 3
  simp at hc
  go_enter Try.func19, Try.ntmps19
  go_wp2
  go_ret
  exact ⟨rfl, rfl⟩
theorem writes_any (b l cap : Nat) (s : StoS) (w : World) (h : StoAt w b l cap s) :
    Calls Try.prog 20 #[.pointer (some ⟨b, 0, none⟩)] w fun e w' => e = .returned (.int .i64 s.writes) ∧ w = w' := by
  have hc := h.head.cell 4
  simp at hc
  go_enter Try.func20, Try.ntmps20
  go_wp2
  go_ret
  exact ⟨rfl, rfl⟩
theorem blocks_any (b l cap : Nat) (s : StoS) (w : World) (h : StoAt w b l cap s) :
    Calls Try.prog 21 #[.pointer (some ⟨b, 0, none⟩)] w fun e w' => e = .returned (.int .i64 s.n) ∧ w = w' := by
  have hc := h.head.cell 0
  simp at hc
  go_enter Try.func21, Try.ntmps21
  go_wp2
  go_ret
  exact ⟨rfl, rfl⟩

/-- A call that hands back nothing and leaves a store. -/
def Left0 (b l cap : Nat) (s : StoS) (w : World) (e : Ending) (w' : World) : Prop := e = .returned (.tuple #[]) ∧ StoAt w' b l cap s ∧ Fr [b] w w'
def StoS.up (s : StoS) : StoS := { s with down := false, fuse := -1 }
theorem up_any (b l cap : Nat) (s : StoS) (w : World) (h : StoAt w b l cap s) :
    Calls Try.prog 15 #[.pointer (some ⟨b, 0, none⟩)] w (Left0 b l cap s.up w) := by
  have c1 := h.head.cell 1
  have c3 := h.head.cell 3
  have f1 := h.head.frozen 1
  have f3 := h.head.frozen 3
  simp at c1 c3
  go_enter Try.func15, Try.ntmps15
  go_wp2
  go_end0
  obtain ⟨C, hr⟩ := h.rest
  exact ⟨rfl, ⟨(h.head.setCell 3 (.bool false)).setCell 1 (.int .i64 (-1)), ⟨C, (hr.setCell_other _ _ (Ne.symm h.ne)).setCell_other _ _ (Ne.symm h.ne)⟩, h.len, h.cap, h.ne, h.few, by simp [StoS.up], by simp [StoS.up], h.pre1⟩,
    ((Fr.refl _ _).setCell (by simp) _).setCell (by simp) _⟩

def StoS.setFuse (s : StoS) (n p : Int) : StoS := { s with fuse := if n < -1 then -1 else n, pre := if p < 0 then 0 else p.toNat % 33 }
theorem fuse_any (b l cap : Nat) (s : StoS) (n p : Int) (w : World) (h : StoAt w b l cap s) (hn : n ≤ 9223372036854775807) :
    Calls Try.prog 13 #[.pointer (some ⟨b, 0, none⟩), .int .i64 n, .int .i64 p] w (Left0 b l cap (s.setFuse n p) w) := by
  have c1 := h.head.cell 1
  have c2 := h.head.cell 2
  have f1 := h.head.frozen 1
  have f2 := h.head.frozen 2
  simp at c1 c2
  obtain ⟨C, hr⟩ := h.rest
  by_cases h1 : n < -1
  all_goals
    by_cases h2 : p < 0
    all_goals
      go_enter Try.func13, Try.ntmps13
      go_wp2
      go_end0
      refine ⟨rfl, ⟨?_, ⟨C, (hr.setCell_other _ _ (Ne.symm h.ne)).setCell_other _ _ (Ne.symm h.ne)⟩, h.len, h.cap, h.ne, h.few, ?_, ?_, ?_⟩, ((Fr.refl _ _).setCell (by simp) _).setCell (by simp) _⟩
      · show Row _ b [_, .int .i64 (if n < -1 then -1 else n), .int .i64 ((if p < 0 then 0 else p.toNat % 33 : Nat) : Int), _, _] 51
        first | rw [if_pos ‹n < -1›] | rw [if_neg (show ¬ n < -1 by omega)]
        first | rw [if_pos ‹p < 0›] | rw [if_neg (show ¬ p < 0 by omega), show ((p.toNat % 33 : Nat) : Int) = p % 33 by omega]
        exact (h.head.setCell 1 _).setCell 2 _
      · simp [StoS.setFuse]; split <;> omega
      · simp [StoS.setFuse]; split <;> omega
      · simp [StoS.setFuse]; split <;> omega

theorem agg55 (w : World) : (isAgg 55).run Try.prog w = .ok true w := by kernel_rfl
theorem size55 : (Try.prog.info? 55).map (·.size) = some 32 := by kernel_rfl
theorem zero55 : (Try.prog.info? 55).map (fun i => (i.size, i.zero.map (·.cells.size))) = some (32, some 32) := by kernel_rfl
/-- What Read tells. -/
def StoS.block (s : StoS) (i : Int) : ByteArray := if s.mayE i = 0 then ⟨((s.bs.drop (i.toNat * 32)).take 32).toArray⟩ else ByteArray.empty
def Told (r : ByteArray) (n : Int) (w : World) (e : Ending) (w' : World) : Prop := e = .returned (.tuple #[.string r, .int .i64 n]) ∧ Fr [] w w'
theorem read_any (b l cap : Nat) (s : StoS) (i : Int) (w : World) (h : StoAt w b l cap s) :
    Calls Try.prog 17 #[.pointer (some ⟨b, 0, none⟩), .int .i64 i] w (Told (s.block i) (s.mayE i) w) := by
  have hC := may_any b l cap s i w h
  by_cases he : s.mayE i = 0
  · obtain ⟨hd, h0, h1⟩ := may_zero he
    have hB : s.block i = ⟨((s.bs.drop (i.toNat * 32)).take 32).toArray⟩ := by rw [StoS.block, if_pos he]
    rw [he, hB]
    rw [he] at hC
    have hl := h.head.cell 0
    simp at hl
    obtain ⟨C, hrow⟩ := h.rest
    have hlen := h.len
    have hcs : ((s.bs.drop (i.toNat * 32)).take 32).length = 32 := by simp; omega
    have hsub : ∀ j v, (bcells ((s.bs.drop (i.toNat * 32)).take 32))[j]? = some v → w.cell? ⟨l, i.toNat * 32 + j, none⟩ = some v := by
      intro j v hv
      refine hrow.seg (i.toNat * 32) 32 j v ?_
      rw [← hv, List.drop_append_of_le_length (by rw [bcells_length]; omega), List.take_append_of_le_length (by simp [bcells_length]; omega)]
      simp [bcells]
    generalize (s.bs.drop (i.toNat * 32)).take 32 = X at hcs hsub hB ⊢
    have HCS := Lib.hid hcs
    have hBL := Lib.hid ((bcells_length X).trans hcs)
    clear he hB hlen hcs
    have HSUB := Lib.hid hsub
    clear hsub
    go_enter Try.func17, Try.ntmps17
    go_wp2_with (first | (go_at_call 25; refine hC.mono ?_; rintro e w' ⟨rfl, rfl⟩) | ((with_reducible refine wpList_load_at rfl 55 (.tmp 19) rfl agg55 32 size55 l (i.toNat * 32) (bcells X) (hBL.out) HSUB.out ?_ ?_); exact rfl) | ((with_reducible refine wpList_var_agg rfl rfl 55 (.tmp 7) (.tmp 20) rfl rfl 32 zero55 (bcells X) hBL.out (bcells_one X) ?_ ?_ ?_); exact rfl; exact rfl))
    intro w1 hr1 hs1 hf1
    have hsub1 : ∀ j v, (bcells X)[j]? = some v → w1.cell? ⟨w.heap.size, 0 + j, none⟩ = some v := fun j v hv => by rw [hr1.cell, Nat.zero_add]; exact hv
    have HS1 := Lib.hid hs1
    have HSUB1 := Lib.hid hsub1
    clear hs1 hsub1
    go_wp2_with ((with_reducible refine wpList_bytes_str rfl 53 9 5 (.tmp 21) rfl Try.underlying53 Try.underlying5 Try.underlying9 X w.heap.size 0 32 32 HCS.out HSUB1.out ?_ ?_); exact rfl)
    go_ret2
    exact ⟨rfl, hf1⟩
  · have hB : s.block i = ByteArray.empty := by rw [StoS.block, if_neg he]
    have he' : (s.mayE i != 0) = true := by simpa using he
    rw [hB]
    generalize s.mayE i = m at he' hC ⊢
    clear he hB h
    go_enter Try.func17, Try.ntmps17
    go_wp2_with (go_at_call 25; refine hC.mono ?_; rintro e w' ⟨rfl, rfl⟩)
    go_ret2
    exact ⟨rfl, Fr.refl _ _⟩

theorem info55 : (Try.prog.info? 55).map (fun i => (i.zero, i.size, i.bytes)) = some (some (.agg (Array.replicate 32 (.int .u8 0))), 32, 32) := by kernel_rfl
def StoS.fresh (n : Nat) : StoS := { n, bs := List.replicate (n * 32) 0, fuse := -1, pre := 0, down := false, writes := 0 }
def Made (n : Nat) (w : World) (e : Ending) (w' : World) : Prop := ∃ b l, w.heap.size ≤ b ∧ w.heap.size ≤ l ∧ e = .returned (.tuple #[.pointer (some ⟨b, 0, none⟩), .int .i64 0]) ∧ StoAt w' b l n (StoS.fresh n) ∧ Fr [] w w'
theorem new_no (n : Int) (w : World) (h : n < 1 ∨ 256 < n) :
    Calls Try.prog 8 #[.int .i64 n] w fun e w' => e = .returned (.tuple #[.pointer none, .int .i64 1]) ∧ w = w' := by
  by_cases h0 : n < 1
  all_goals
    first | (have h1 : 256 < n := by omega) | skip
    clear h
    go_enter Try.func8, Try.ntmps8
    go_wp2
    go_ret2
    exact ⟨rfl, rfl⟩
theorem bcells_zero (m : Nat) : bcells (List.replicate m 0) = List.replicate m (.int .u8 0) := by simp [bcells]
theorem new_ok (n : Nat) (w : World) (h0 : 1 ≤ n) (h1 : n ≤ 256) :
    Calls Try.prog 8 #[.int .i64 n] w (Made n w) := by
  have a1 : ¬ (n : Int) < 1 := by omega
  have a2 : ¬ 256 < (n : Int) := by omega
  go_enter Try.func8, Try.ntmps8
  go_wp2_with ((with_reducible refine wpList_make_row rfl (.tmp 10) (.tmp 10) 49 rfl 55 Try.underlying49 _ 32 32 info55 (.int .u8 0) ?_ (by decide) .i64 .i64 n n n ?_ ?_ (by omega) (by omega) ?_ ?_ ?_); exact rfl; exact rfl; exact rfl; exact rfl; exact rfl)
  intro w1 hr1 hs1 hf1
  go_wp2
  go_ret2
  have hr2 : Row (w1.alloc (.cells #[.slice (some ⟨w.heap.size, 0, none⟩) n n, .int .i64 (-1), .int .i64 0, .bool false, .int .i64 0] 51)) (w.heap.size + 1) [.slice (some ⟨w.heap.size, 0, none⟩) n n, .int .i64 (-1), .int .i64 0, .bool false, .int .i64 0] 51 := by
    rw [← hs1]; exact Row.new _ _ _
  refine ⟨w.heap.size + 1, w.heap.size, by omega, by omega, rfl, ⟨hr2, ⟨[], ?_⟩, by simp [StoS.fresh]; omega, by simp [StoS.fresh], by omega, by simpa [StoS.fresh] using h1, by simp [StoS.fresh], by simp [StoS.fresh], by simp [StoS.fresh]⟩, hf1.alloc _⟩
  have := hr1.alloc (.cells #[.slice (some ⟨w.heap.size, 0, none⟩) n n, .int .i64 (-1), .int .i64 0, .bool false, .int .i64 0] 51)
  rw [List.append_nil]
  show Row _ _ (bcells (List.replicate (n * 32) 0)) 55
  rw [bcells_zero]
  exact this

/-- 32 bytes that begin with some. -/
def blockL (s : List UInt8) : List UInt8 := (s ++ List.replicate (32 - s.length) 46).take 32
def blockS (s : ByteArray) : ByteArray := ⟨(blockL s.data.toList).toArray⟩
theorem blockL_length (s : List UInt8) : (blockL s).length = 32 := by simp only [blockL, List.length_take, List.length_append, List.length_replicate]; omega
theorem blockS_size (s : ByteArray) : (blockS s).size = 32 := blockL_length _
def pad (s : ByteArray) (k : Nat) : ByteArray := ⟨(s.data.toList ++ List.replicate k 46).toArray⟩
theorem pad_size (s : ByteArray) (k : Nat) : (pad s k).size = s.size + k := by
  show (s.data.toList ++ List.replicate k 46).toArray.size = _
  rw [List.size_toArray, List.length_append, List.length_replicate]
  rfl
theorem pad_zero (s : ByteArray) : pad s 0 = s := by simp [pad]
theorem pad_succ (s : ByteArray) (k : Nat) : pad s k ++ ⟨#[46]⟩ = pad s (k + 1) := by
  apply ByteArray.ext
  simp [pad, ByteArray.data_append, List.replicate_succ']
theorem pad_block (s : ByteArray) (k : Nat) (hk : k ≤ 32 - s.size) (h : 32 ≤ s.size + k) : (pad s k).extract 0 32 = blockS s := by
  have e : k = 32 - s.data.toList.length := by
    have : s.data.toList.length = s.size := rfl
    omega
  subst e
  apply ByteArray.ext
  simp [pad, blockS, blockL, ByteArray.data_extract]
theorem block_any (s : ByteArray) (w : World) (hs : s.size ≤ 9223372036854775807) :
    Calls Try.prog 10 #[.string s] w fun e w' => e = .returned (.string (blockS s)) ∧ w = w' := by
  go_enter Try.func10, Try.ntmps10
  go_wp2
  go_loopg [0] 32 (fun g v wr => wr = w ∧ ∃ k, g = 32 - k ∧ k ≤ 32 - s.size ∧ v = .string (pad s k))
  case atStart => exact ⟨rfl, 0, rfl, by omega, by rw [pad_zero]⟩
  case round =>
    obtain ⟨rfl, k, rfl, hk, rfl⟩ := hrel
    have hz := pad_size s k
    have hb := pad_block s k hk
    have hp := pad_succ s k
    by_cases hc : 32 ≤ s.size + k
    · have hd : decide (((pad s k).size : Int) < 32) = false := by rw [decide_eq_false_iff_not]; omega
      have h32 : 32 ≤ (pad s k).size := by omega
      have hb' := hb hc
      have HB := Lib.hid hb'
      clear hb hb' hz hp
      generalize pad s k = p at hd h32 HB ⊢
      go_wp2
      go_ret
      exact ⟨by rw [HB.out]; rfl, rfl⟩
    · have hd : decide (((pad s k).size : Int) < 32) = true := by rw [decide_eq_true_iff]; omega
      have HP := Lib.hid hp
      have hlt : (pad s k).size < 32 := by omega
      clear hb hz hp
      generalize pad s k = p at hd HP hlt ⊢
      go_wp2
      go_roundg (32 - (k + 1))
      case measure => omega
      case rel => exact ⟨rfl, k + 1, rfl, by omega, by rw [HP.out]⟩
end Go.Proofs.Ytgknnfajilfpeaa
