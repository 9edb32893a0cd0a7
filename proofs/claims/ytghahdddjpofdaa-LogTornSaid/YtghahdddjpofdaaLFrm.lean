/- Numbers as bytes, frames. -/
import Derived.Test.YtghahdddjpofdaaLSum
import Derived.LoopN
import Derived.StillTailTactics

set_option linter.unusedVariables false
set_option linter.unusedSimpArgs false
namespace Go.Proofs.Ytghahdddjpofdaa
open Go.RowKit

theorem infoU8 : (Try.prog.info? 5).map (fun i => (i.zero, i.size, i.bytes)) = some (some (.int .u8 0), 1, 1) := by kernel_rfl
def be2 (n : Nat) : List UInt8 := [UInt8.ofNat (n / 256), UInt8.ofNat n]
def be4 (n : Nat) : List UInt8 := [UInt8.ofNat (n / 16777216), UInt8.ofNat (n / 65536), UInt8.ofNat (n / 256), UInt8.ofNat n]
theorem cell_u8 (m : Nat) : ((UInt8.ofNat m).toNat : Int) = (m : Int) % 256 := by
  rw [UInt8.toNat_ofNat']
  omega
set_option maxHeartbeats 400000 in
theorem laid2 (n : Nat) (w : World) (hn : n < 4294967296) :
    Calls Try.prog 16 #[.int .u32 n, .int .i64 2] w fun e w' => e = .returned (.string ⟨(be2 n).toArray⟩) ∧ Fr [] w w' := by
  go_enter Try.func16, Try.ntmps16
  go_wp2_with ((with_reducible refine wpList_make_row rfl (.tmp 7) (.tmp 7) 34 rfl 5 Try.underlying34 _ 1 1 infoU8 (.int .u8 0) ?_ (by decide) .i64 .i64 2 2 2 ?_ ?_ (by omega) (by omega) ?_ ?_ ?_); exact rfl; exact rfl; exact rfl; exact rfl; exact rfl)
  intro w1 hr1 hs1 hf1
  have c0 := hr1.cell 0
  have c1 := hr1.cell 1
  have f0 := hr1.frozen 0
  have f1 := hr1.frozen 1
  simp at c0 c1
  have hb : bcells (be2 n) = [.int .u8 ((n : Int) / 256 % 256), .int .u8 ((n : Int) % 256)] := by
    simp only [bcells, be2, List.map_cons, List.map_nil, UInt8.toNat_ofNat']
    congr 2
  have hrow : Row ((w1.setCell ⟨w.heap.size, 0, none⟩ (.int .u8 ((n : Int) / 256 % 256))).setCell ⟨w.heap.size, 1, none⟩ (.int .u8 ((n : Int) % 256))) w.heap.size (bcells (be2 n)) 5 := by
    rw [hb]
    exact (hr1.setCell 0 _).setCell 1 _
  have hsub : ∀ j v, (bcells (be2 n))[j]? = some v → ((w1.setCell ⟨w.heap.size, 0, none⟩ (.int .u8 ((n : Int) / 256 % 256))).setCell ⟨w.heap.size, 1, none⟩ (.int .u8 ((n : Int) % 256))).cell? ⟨w.heap.size, 0 + j, none⟩ = some v := fun j v hv => by rw [hrow.cell, Nat.zero_add]; exact hv
  have HS := Lib.hid hsub
  have F1 := Lib.hid hf1
  clear hr1 hs1 hf1 hb hrow hsub
  go_wp2_with fail
  refine wp_loop_rounds 3 ?_
  rw [rounds_succ]
  go_wp2_with fail
  rw [rounds_succ]
  go_wp2_with fail
  rw [rounds_succ]
  go_wp2_with ((with_reducible refine wpList_bytes_str rfl 34 9 5 (.tmp 26) rfl Try.underlying34 Try.underlying5 Try.underlying9 (be2 n) w.heap.size 0 2 2 rfl HS.out ?_ ?_); exact rfl)
  go_ret
  exact ⟨rfl, (F1.out.setCell (by simp) _).setCell (by simp) _⟩
set_option maxHeartbeats 400000 in
theorem laid4 (n : Nat) (w : World) (hn : n < 4294967296) :
    Calls Try.prog 16 #[.int .u32 n, .int .i64 4] w fun e w' => e = .returned (.string ⟨(be4 n).toArray⟩) ∧ Fr [] w w' := by
  go_enter Try.func16, Try.ntmps16
  go_wp2_with ((with_reducible refine wpList_make_row rfl (.tmp 7) (.tmp 7) 34 rfl 5 Try.underlying34 _ 1 1 infoU8 (.int .u8 0) ?_ (by decide) .i64 .i64 4 4 4 ?_ ?_ (by omega) (by omega) ?_ ?_ ?_); exact rfl; exact rfl; exact rfl; exact rfl; exact rfl)
  intro w1 hr1 hs1 hf1
  have c0 := hr1.cell 0
  have c1 := hr1.cell 1
  have c2 := hr1.cell 2
  have c3 := hr1.cell 3
  have f0 := hr1.frozen 0
  have f1 := hr1.frozen 1
  have f2 := hr1.frozen 2
  have f3 := hr1.frozen 3
  simp at c0 c1 c2 c3
  have hb : bcells (be4 n) = [.int .u8 ((n : Int) / 16777216), .int .u8 ((n : Int) / 65536 % 256), .int .u8 ((n : Int) / 256 % 256), .int .u8 ((n : Int) % 256)] := by
    have e1 : ((n / 16777216 : Nat) : Int) = (n : Int) / 16777216 := by omega
    have e2 : ((n / 65536 : Nat) : Int) = (n : Int) / 65536 := by omega
    have e3 : ((n / 256 : Nat) : Int) = (n : Int) / 256 := by omega
    show [Value.int .u8 ((UInt8.ofNat (n / 16777216)).toNat : Int), .int .u8 ((UInt8.ofNat (n / 65536)).toNat : Int), .int .u8 ((UInt8.ofNat (n / 256)).toNat : Int), .int .u8 ((UInt8.ofNat n).toNat : Int)] = _
    rw [cell_u8, cell_u8, cell_u8, cell_u8, e1, e2, e3, show (n : Int) / 16777216 % 256 = (n : Int) / 16777216 by omega]
  have hrow : Row ((((w1.setCell ⟨w.heap.size, 0, none⟩ (.int .u8 ((n : Int) / 16777216))).setCell ⟨w.heap.size, 1, none⟩ (.int .u8 ((n : Int) / 65536 % 256))).setCell ⟨w.heap.size, 2, none⟩ (.int .u8 ((n : Int) / 256 % 256))).setCell ⟨w.heap.size, 3, none⟩ (.int .u8 ((n : Int) % 256))) w.heap.size (bcells (be4 n)) 5 := by
    rw [hb]
    exact (((hr1.setCell 0 _).setCell 1 _).setCell 2 _).setCell 3 _
  have hsub : ∀ j v, (bcells (be4 n))[j]? = some v → ((((w1.setCell ⟨w.heap.size, 0, none⟩ (.int .u8 ((n : Int) / 16777216))).setCell ⟨w.heap.size, 1, none⟩ (.int .u8 ((n : Int) / 65536 % 256))).setCell ⟨w.heap.size, 2, none⟩ (.int .u8 ((n : Int) / 256 % 256))).setCell ⟨w.heap.size, 3, none⟩ (.int .u8 ((n : Int) % 256))).cell? ⟨w.heap.size, 0 + j, none⟩ = some v := fun j v hv => by rw [hrow.cell, Nat.zero_add]; exact hv
  have HS := Lib.hid hsub
  have F1 := Lib.hid hf1
  clear hr1 hs1 hf1 hb hrow hsub
  go_wp2_with fail
  refine wp_loop_rounds 5 ?_
  rw [rounds_succ]
  go_wp2_with fail
  rw [rounds_succ]
  go_wp2_with fail
  rw [rounds_succ]
  go_wp2_with fail
  rw [rounds_succ]
  go_wp2_with fail
  rw [rounds_succ]
  go_wp2_with ((with_reducible refine wpList_bytes_str rfl 34 9 5 (.tmp 26) rfl Try.underlying34 Try.underlying5 Try.underlying9 (be4 n) w.heap.size 0 4 4 rfl HS.out ?_ ?_); exact rfl)
  go_ret
  exact ⟨rfl, (((F1.out.setCell (by simp) _).setCell (by simp) _).setCell (by simp) _).setCell (by simp) _⟩

def frameL (r : List UInt8) : List UInt8 := [1] ++ be2 r.length ++ be4 (sumL r) ++ r ++ [1]
theorem frameL_length (r : List UInt8) : (frameL r).length = r.length + 8 := by simp [frameL, be2, be4]
/-- What Frame tells. -/
def goodL (r : List UInt8) : Prop := 1 ≤ r.length ∧ r.length ≤ 400
instance (r : List UInt8) : Decidable (goodL r) := by unfold goodL; infer_instance
def frameS (s : ByteArray) : ByteArray := if goodL s.data.toList then ⟨(frameL s.data.toList).toArray⟩ else ⟨#[]⟩
def frameE (s : ByteArray) : Int := if goodL s.data.toList then 0 else 3
theorem bapp (l m : List UInt8) : (⟨l.toArray⟩ : ByteArray) ++ ⟨m.toArray⟩ = ⟨(l ++ m).toArray⟩ := by
  apply ByteArray.ext
  simp
theorem blist (s : ByteArray) : (⟨s.data.toList.toArray⟩ : ByteArray) = s := rfl
theorem bsize (l : List UInt8) : (⟨l.toArray⟩ : ByteArray).size = l.length := rfl
def Told (r : ByteArray) (n : Int) (w : World) (e : Ending) (w' : World) : Prop := e = .returned (.tuple #[.string r, .int .i64 n]) ∧ Fr [] w w'
theorem empty_toList (s : ByteArray) (h : s.size = 0) : s.toList.isEmpty = true ∧ s.toList = [] := by
  have : s.data.toList = [] := List.eq_nil_of_length_eq_zero h
  have e : s.toList = s.data.toList := ByteArray.toList_eq s
  rw [e, this]; simp
theorem nonempty_toList (s : ByteArray) (h : s.size ≠ 0) : s.toList.isEmpty = false ∧ s.toList ≠ [] := by
  have e : s.toList = s.data.toList := ByteArray.toList_eq s
  have hl : s.data.toList.length = s.size := rfl
  rw [e]
  cases hs : s.data.toList with
  | nil => rw [hs] at hl; exact absurd hl.symm h
  | cons a l => simp
set_option maxHeartbeats 400000 in
theorem frame_bad0 (s : ByteArray) (w : World) (h : s.size = 0) :
    Calls Try.prog 8 #[.string s] w (Told ⟨#[]⟩ 3 w) := by
  obtain ⟨h1, h2⟩ := empty_toList s h
  clear h
  go_enter Try.func8, Try.ntmps8
  go_wp2
  go_ret2
  exact ⟨rfl, Fr.refl _ _⟩
set_option maxHeartbeats 400000 in
theorem frame_bad1 (s : ByteArray) (w : World) (h0 : 400 < s.size) :
    Calls Try.prog 8 #[.string s] w (Told ⟨#[]⟩ 3 w) := by
  obtain ⟨h1, h2⟩ := nonempty_toList s (by omega)
  go_enter Try.func8, Try.ntmps8
  go_wp2
  go_ret2
  exact ⟨rfl, Fr.refl _ _⟩
set_option maxHeartbeats 400000 in
theorem frame_good (s : ByteArray) (w : World) (h0 : 1 ≤ s.size) (h : s.size ≤ 400) :
    Calls Try.prog 8 #[.string s] w (Told ⟨(frameL s.data.toList).toArray⟩ 0 w) := by
  obtain ⟨h1, h2⟩ := nonempty_toList s (by omega)
  have hfr : (⟨(frameL s.data.toList).toArray⟩ : ByteArray) = ⟨[1].toArray⟩ ++ ⟨(be2 s.size).toArray⟩ ++ ⟨(be4 (sumL s.data.toList)).toArray⟩ ++ s ++ ⟨[1].toArray⟩ := by
    rw [← blist s, bapp, bapp, bapp, bapp]; rfl
  have HF := Lib.hid hfr
  clear hfr
  go_enter Try.func8, Try.ntmps8
  have hg : ∀ j v, (bcells [1])[j]? = some v → (w.alloc (.cells #[.int .u8 1] 5)).cell? ⟨w.heap.size, 0 + j, none⟩ = some v := fun j v hv => by
    rw [(Row.new w [.int .u8 1] 5).cell, Nat.zero_add]; exact hv
  have HG := Lib.hid hg
  clear hg
  have hd : decide (400 < (s.size : Int)) = false := by rw [decide_eq_false_iff_not]; omega
  go_wp2_with ((with_reducible refine wpList_bytes_str rfl 34 9 5 (.tmp 12) rfl Try.underlying34 Try.underlying5 Try.underlying9 [1] w.heap.size 0 1 1 rfl HG.out ?_ ?_); exact rfl)
  refine (laid2 s.size _ (by omega)).mono ?_
  rintro e w1 ⟨rfl, hf1⟩
  have F1 := Lib.hid (((Fr.refl [] w).alloc _).trans hf1 (by simp))
  have z2 := bsize (be2 s.size)
  have z2' : (be2 s.size).length = 2 := rfl
  rw [z2'] at z2
  clear hf1 z2' HG
  generalize (⟨(be2 s.size).toArray⟩ : ByteArray) = A at z2 HF ⊢
  go_wp2_with fail
  refine (sum_any s w1 (by omega)).mono ?_
  rintro e w2 ⟨rfl, hf2⟩
  have F2 := Lib.hid (F1.out.trans hf2 (by simp))
  clear hf2
  go_wp2_with fail
  refine (laid4 (sumL s.data.toList) w2 (sumL_lt _)).mono ?_
  rintro e w3 ⟨rfl, hf3⟩
  have F3 := Lib.hid (F2.out.trans hf3 (by simp))
  have z4 := bsize (be4 (sumL s.data.toList))
  have z4' : (be4 (sumL s.data.toList)).length = 4 := rfl
  rw [z4'] at z4
  clear hf3 z4'
  generalize (⟨(be4 (sumL s.data.toList)).toArray⟩ : ByteArray) = B at z4 HF ⊢
  have hq1 : ¬ 9223372036854775807 < 1 + 2 + 4 + s.size := by omega
  go_wp2_with fail
  go_ret2
  exact ⟨by rw [HF.out]; rfl, F3.out⟩
theorem frame_any (s : ByteArray) (w : World) :
    Calls Try.prog 8 #[.string s] w (Told (frameS s) (frameE s) w) := by
  unfold frameS frameE
  by_cases h : goodL s.data.toList
  · rw [if_pos h, if_pos h]; exact frame_good s w h.1 h.2
  · rw [if_neg h, if_neg h]
    by_cases h0 : s.size = 0
    · exact frame_bad0 s w h0
    · refine frame_bad1 s w ?_
      rcases Nat.lt_or_ge 400 s.size with h1 | h1
      · exact h1
      · exact absurd ⟨by show 1 ≤ s.size; omega, h1⟩ h
def hasP (s p : List UInt8) : Bool := s.take p.length == p
theorem ext_toList (s : ByteArray) (n : Nat) : (s.extract 0 n).toList = s.data.toList.take n := by
  rw [ByteArray.toList_eq, ByteArray.data_extract, Array.toList_extract]
  simp [List.extract]
theorem prefix_any (s p : ByteArray) (w : World) (hs : s.size ≤ 140737488351232) (hp : p.size ≤ 1000) :
    Calls Try.prog 21 #[.string s, .string p] w fun e w' => e = .returned (.bool (hasP s.data.toList p.data.toList)) ∧ w = w' := by
  by_cases h : p.size ≤ s.size
  · have h1 : ((s.extract 0 p.size).toList == p.toList) = hasP s.data.toList p.data.toList := by
      rw [ext_toList, ByteArray.toList_eq]; rfl
    generalize hasP s.data.toList p.data.toList = t at h1 ⊢
    go_enter Try.func21, Try.ntmps21
    go_wp2
    go_ret
    exact ⟨rfl, rfl⟩
  · have h1 : hasP s.data.toList p.data.toList = false := by
      unfold hasP
      rw [beq_eq_false_iff_ne]
      intro he
      have := congrArg List.length he
      rw [List.length_take] at this
      have e1 : s.data.toList.length = s.size := rfl
      have e2 : p.data.toList.length = p.size := rfl
      omega
    rw [h1]
    clear h1
    go_enter Try.func21, Try.ntmps21
    go_wp2
    go_ret
    exact ⟨rfl, rfl⟩

def recN (s : List UInt8) : Nat := (s.getD 1 0).toNat * 256 + (s.getD 2 0).toNat
def recL (s : List UInt8) : List UInt8 := (s.drop 7).take (recN s)
def oneB (s : List UInt8) : Bool := decide (9 ≤ s.length) && (s.getD 0 0 == 1) && decide (recN s ≤ 400) && decide (recN s + 8 ≤ s.length) && decide (1 ≤ recN s) && hasP s (frameL (recL s))
def OneP (s : ByteArray) (w : World) (e : Ending) (w' : World) : Prop := ∃ r, e = .returned (.tuple #[.string r, .bool (oneB s.data.toList)]) ∧ (oneB s.data.toList = true → r = ⟨(recL s.data.toList).toArray⟩) ∧ Fr [] w w'
theorem getD_at (s : ByteArray) (i : Nat) (h : i < s.size) : s.data.toList.getD i 0 = s[i] := by
  have : i < s.data.toList.length := h
  rw [List.getD_eq_getElem?_getD, List.getElem?_eq_getElem this]
  rfl
theorem one_no (s : ByteArray) (w : World) (h : s.size < 9) : Calls Try.prog 17 #[.string s] w (OneP s w) := by
  have hb : oneB s.data.toList = false := by
    have : ¬ 9 ≤ s.data.toList.length := by show ¬ 9 ≤ s.size; omega
    unfold oneB
    rw [decide_eq_false this]
    simp
  unfold OneP
  rw [hb]
  clear hb
  have hd : decide ((s.size : Int) < 9) = true := by rw [decide_eq_true_iff]; omega
  go_enter Try.func17, Try.ntmps17
  go_wp2_with fail
  go_ret2
  exact ⟨_, rfl, fun h => by simp at h, Fr.refl _ _⟩
theorem one_mark (s : ByteArray) (w : World) (h : 9 ≤ s.size) (h1 : s[0] ≠ 1) : Calls Try.prog 17 #[.string s] w (OneP s w) := by
  have hb : oneB s.data.toList = false := by
    unfold oneB
    rw [getD_at s 0 (by omega)]
    have : (s[0] == 1) = false := by simpa using h1
    rw [this]
    simp
  unfold OneP
  rw [hb]
  clear hb
  have hd : decide ((s.size : Int) < 9) = false := by rw [decide_eq_false_iff_not]; omega
  have h2 : ((s[0].toNat : Int) != 1) = true := by
    rw [bne_iff_ne]
    intro h3
    exact h1 (UInt8.toNat_inj.1 (by have : s[0].toNat = 1 := by omega
                                    rw [this]; rfl))
  have h0 : 0 < s.size := by omega
  go_enter Try.func17, Try.ntmps17
  go_wp2_with fail
  go_ret2
  exact ⟨_, rfl, fun h => by simp at h, Fr.refl _ _⟩
theorem recN_at (s : ByteArray) (h : 9 ≤ s.size) : recN s.data.toList = s[1].toNat * 256 + s[2].toNat := by
  unfold recN
  rw [getD_at s 1 (by omega), getD_at s 2 (by omega)]
theorem or16 (a b : Nat) (ha : a < 256) (hb : b < 256) : bits .or .i64 ((a : Int) * 256) (b : Int) = ((a * 256 + b : Nat) : Int) := by
  rw [bits_join .i64 16 (by decide) (fun n h0 h1 => by have : n < 65536 := h1; exact IntWalk.i64_in n (by omega)) 8 _ _ (by omega) (by show (a : Int) * 256 % 256 = 0; omega) (by show (a : Int) * 256 < 65536; omega) (by omega) (by show (b : Int) < 256; omega) (by show (b : Int) < 65536; omega)]
  omega
/-- What the walk knows behind the head. -/
structure Head (s : ByteArray) (n : Nat) : Prop where
  size : 9 ≤ s.size
  mark : s[0]'(by omega) = 1
  n : recN s.data.toList = n
theorem one_head (s : ByteArray) (w : World) (hs : s.size ≤ 140737488351232) (n : Nat) (H : Head s n) (h : 400 < n ∨ s.size < n + 8) : Calls Try.prog 17 #[.string s] w (OneP s w) := by
  have h9 := H.size
  have hb : oneB s.data.toList = false := by
    unfold oneB
    rw [H.n]
    rcases h with h | h
    · rw [decide_eq_false (show ¬ n ≤ 400 by omega)]; simp
    · rw [decide_eq_false (show ¬ n + 8 ≤ s.data.toList.length by show ¬ n + 8 ≤ s.size; omega)]; simp
  unfold OneP
  rw [hb]
  clear hb
  have hd : decide ((s.size : Int) < 9) = false := by rw [decide_eq_false_iff_not]; omega
  have hm : s[0] = 1 := H.mark
  have h2 : ((s[0].toNat : Int) != 1) = false := by rw [hm]; rfl
  have h0 : 0 < s.size := by omega
  have h01 : 1 < s.size := by omega
  have h02 : 2 < s.size := by omega
  have i01 : (1 : Int) < (s.size : Int) := by omega
  have i02 : (2 : Int) < (s.size : Int) := by omega
  have hn := recN_at s h9
  rw [H.n] at hn
  have b1 := s[1].toNat_lt
  have b2 := s[2].toNat_lt
  have q1 : IntKind.i64.wrap (s[1].toNat : Int) = (s[1].toNat : Int) := IntWalk.i64_in _ (by omega)
  have q2 : IntKind.i64.wrap (s[2].toNat : Int) = (s[2].toNat : Int) := IntWalk.i64_in _ (by omega)
  have q3 : IntKind.i64.wrap ((s[1].toNat : Int) * 256) = (s[1].toNat : Int) * 256 := IntWalk.i64_in _ (by omega)
  have q4 : bits .or .i64 ((s[1].toNat : Int) * 256) (s[2].toNat : Int) = ((n : Nat) : Int) := by rw [hn]; exact or16 _ _ (by omega) (by omega)
  have hN := Lib.hid hn
  have hn2 : n < 65536 := by omega
  clear hm hn
  go_enter Try.func17, Try.ntmps17
  go_wp2_with fail
  go_still (by kernel_rfl)
  clear q1 q2 q3 q4
  rcases h with h | h
  · have hd4 : decide ((n : Int) > 400) = true := by rw [decide_eq_true_iff]; omega
    go_wp2_with fail
    go_ret2
    exact ⟨_, rfl, fun h => by simp at h, (Fr.refl _ _).drewN 1⟩
  · by_cases h4 : 400 < n
    · have hd4 : decide ((n : Int) > 400) = true := by rw [decide_eq_true_iff]; omega
      go_wp2_with fail
      go_ret2
      exact ⟨_, rfl, fun h => by simp at h, (Fr.refl _ _).drewN 1⟩
    · have hd4 : decide ((n : Int) > 400) = false := by rw [decide_eq_false_iff_not]; omega
      have hd5 : decide ((s.size : Int) < n + 8) = true := by rw [decide_eq_true_iff]; omega
      go_wp2_with fail
      go_ret2
      exact ⟨_, rfl, fun h => by simp at h, (Fr.refl _ _).drewN 1⟩
theorem ext_data (s : ByteArray) (a b : Nat) : (s.extract a b).data.toList = (s.data.toList.drop a).take (b - a) := by
  rw [ByteArray.data_extract, Array.toList_extract]
theorem one_good (s : ByteArray) (w : World) (hs : s.size ≤ 140737488351232) (n : Nat) (H : Head s n) (hn4 : n ≤ 400) (hsz : n + 8 ≤ s.size) : Calls Try.prog 17 #[.string s] w (OneP s w) := by
  have h9 := H.size
  have hb : oneB s.data.toList = (decide (1 ≤ n) && hasP s.data.toList (frameL (recL s.data.toList))) := by
    unfold oneB
    rw [H.n, getD_at s 0 (by omega), H.mark, decide_eq_true (show 9 ≤ s.data.toList.length from h9), decide_eq_true hn4, decide_eq_true (show n + 8 ≤ s.data.toList.length from hsz)]
    simp
  have hrec : (s.extract 7 (7 + n)).data.toList = recL s.data.toList := by
    rw [ext_data]
    unfold recL
    rw [H.n, show 7 + n - 7 = n by omega]
  have hrs : (s.extract 7 (7 + n)).size = n := by
    have : (s.extract 7 (7 + n)).data.toList.length = n := by
      rw [hrec]
      unfold recL
      rw [H.n, List.length_take, List.length_drop]
      have : s.data.toList.length = s.size := rfl
      omega
    exact this
  have hrr : s.extract 7 (7 + n) = ⟨(recL s.data.toList).toArray⟩ := by rw [← hrec]
  unfold OneP
  rw [hb]
  clear hb
  have hd : decide ((s.size : Int) < 9) = false := by rw [decide_eq_false_iff_not]; omega
  have hm : s[0] = 1 := H.mark
  have h2 : ((s[0].toNat : Int) != 1) = false := by rw [hm]; rfl
  have h0 : 0 < s.size := by omega
  have h01 : 1 < s.size := by omega
  have h02 : 2 < s.size := by omega
  have i01 : (1 : Int) < (s.size : Int) := by omega
  have i02 : (2 : Int) < (s.size : Int) := by omega
  have hn := recN_at s h9
  rw [H.n] at hn
  have b1 := s[1].toNat_lt
  have b2 := s[2].toNat_lt
  have q1 : IntKind.i64.wrap (s[1].toNat : Int) = (s[1].toNat : Int) := IntWalk.i64_in _ (by omega)
  have q2 : IntKind.i64.wrap (s[2].toNat : Int) = (s[2].toNat : Int) := IntWalk.i64_in _ (by omega)
  have q3 : IntKind.i64.wrap ((s[1].toNat : Int) * 256) = (s[1].toNat : Int) * 256 := IntWalk.i64_in _ (by omega)
  have q4 : bits .or .i64 ((s[1].toNat : Int) * 256) (s[2].toNat : Int) = ((n : Nat) : Int) := by rw [hn]; exact or16 _ _ (by omega) (by omega)
  have hN := Lib.hid hn
  have hn2 : n < 65536 := by omega
  clear hm hn
  go_enter Try.func17, Try.ntmps17
  go_wp2_with fail
  go_still (by kernel_rfl)
  clear q1 q2 q3 q4
  have hd4 : decide ((n : Int) > 400) = false := by rw [decide_eq_false_iff_not]; omega
  have hd5 : decide ((s.size : Int) < n + 8) = false := by rw [decide_eq_false_iff_not]; omega
  have HRR := Lib.hid hrr
  have HRS := Lib.hid hrs
  have HREC := Lib.hid hrec
  clear hrr hrs hrec
  go_wp2_with fail
  have hsz2 : (s.extract 7 (7 + n)).size ≤ 140737488351232 := by rw [HRS.out]; omega
  refine (frame_any (s.extract 7 (7 + n)) _).mono ?_
  rintro e w1 ⟨rfl, F1⟩
  have hlen : (s.extract 7 (7 + n)).data.toList.length = n := HRS.out
  by_cases h1 : 1 ≤ n
  · have hg : goodL (s.extract 7 (7 + n)).data.toList := by unfold goodL; rw [hlen]; omega
    have hfs : frameS (s.extract 7 (7 + n)) = ⟨(frameL (recL s.data.toList)).toArray⟩ := by unfold frameS; rw [if_pos hg, HREC.out]
    have hfe : frameE (s.extract 7 (7 + n)) = 0 := by unfold frameE; rw [if_pos hg]
    rw [hfs, hfe]
    have HF := Lib.hid hfs
    clear hfs hfe
    go_wp2_with fail
    have hp : (⟨(frameL (recL s.data.toList)).toArray⟩ : ByteArray).size ≤ 1000 := by
      rw [bsize, frameL_length, ← HREC.out, hlen]; omega
    refine (prefix_any s ⟨(frameL (recL s.data.toList)).toArray⟩ _ hs hp).mono ?_
    rintro e w2 ⟨rfl, rfl⟩
    go_wp2_with fail
    go_ret2
    refine ⟨s.extract 7 (7 + n), ?_, fun _ => HRR.out, (((Fr.refl _ _).drewN 1).trans F1 (by simp))⟩
    rw [decide_eq_true h1, Bool.true_and]
    try rfl
  · have hg : ¬ goodL (s.extract 7 (7 + n)).data.toList := by unfold goodL; rw [hlen]; omega
    have hfe : frameE (s.extract 7 (7 + n)) = 3 := by unfold frameE; rw [if_neg hg]
    rw [hfe]
    clear hfe
    go_wp2_with fail
    go_ret2
    refine ⟨s.extract 7 (7 + n), ?_, fun _ => HRR.out, (((Fr.refl _ _).drewN 1).trans F1 (by simp))⟩
    rw [decide_eq_false h1, Bool.false_and]
    try rfl
theorem one_any (s : ByteArray) (w : World) (hs : s.size ≤ 140737488351232) : Calls Try.prog 17 #[.string s] w (OneP s w) := by
  by_cases h : s.size < 9
  · exact one_no s w h
  · by_cases h1 : s[0]'(by omega) = 1
    · have H : Head s (recN s.data.toList) := ⟨by omega, h1, rfl⟩
      by_cases h2 : 400 < recN s.data.toList ∨ s.size < recN s.data.toList + 8
      · exact one_head s w hs _ H h2
      · exact one_good s w hs _ H (by omega) (by omega)
    · exact one_mark s w (by omega) h1
end Go.Proofs.Ytghahdddjpofdaa
