/- The reference store: its memory, its contracts. -/
import Derived.Test.YtgknnfajilfpeaaPure
import Derived.Laws.AppendOwn
import Derived.Laws.OwnMore
set_option linter.unusedVariables false
set_option linter.unusedSimpArgs false
namespace Go.Proofs.Ytgknnfajilfpeaa
open Go.RowKit

/-- Block j of the bytes. -/
def ckL (bs : List UInt8) (j : Nat) : List UInt8 := (bs.drop (j * 32)).take 32
def ck (bs : List UInt8) (j : Nat) : Value := .string ⟨(ckL bs j).toArray⟩
def cks (bs : List UInt8) (n : Nat) : List Value := (List.range n).map (ck bs)
theorem cks_length (bs : List UInt8) (n : Nat) : (cks bs n).length = n := by simp [cks]
theorem cks_at (bs : List UInt8) (n j : Nat) (h : j < n) : (cks bs n)[j]? = some (ck bs j) := by
  unfold cks
  rw [List.getElem?_map, List.getElem?_range h]
  rfl
theorem ckL_length (bs : List UInt8) (n j : Nat) (hl : bs.length = 32 * n) (h : j < n) : (ckL bs j).length = 32 := by
  unfold ckL
  rw [List.length_take, List.length_drop]
  omega
theorem splice_at (s : List UInt8) (o : Nat) (d : List UInt8) (h : o + d.length ≤ s.length) (k : Nat) :
    (splice s o d)[k]? = if k < o then s[k]? else if k < o + d.length then d[k - o]? else s[k]? := by
  unfold splice
  have htl : (s.take o).length = o := by rw [List.length_take]; omega
  by_cases h1 : k < o
  · rw [if_pos h1, List.getElem?_append_left (by omega), List.getElem?_take, if_pos h1]
  · rw [if_neg h1, List.getElem?_append_right (by omega), htl]
    by_cases h2 : k < o + d.length
    · rw [if_pos h2, List.getElem?_append_left (by omega)]
    · rw [if_neg h2, List.getElem?_append_right (by omega), List.getElem?_drop]
      congr 1
      omega
theorem ckL_at (bs : List UInt8) (j k : Nat) : (ckL bs j)[k]? = if k < 32 then bs[j * 32 + k]? else none := by
  unfold ckL
  rw [List.getElem?_take]
  split
  · rw [List.getElem?_drop]
  · rfl
theorem ckL_same (bs : List UInt8) (n i : Nat) (d : List UInt8) (hl : bs.length = 32 * n) (hi : i < n) (hd : d.length ≤ 32) : ckL (splice bs (i * 32) d) i = d ++ (ckL bs i).drop d.length := by
  apply List.ext_getElem?
  intro k
  rw [ckL_at, splice_at _ _ _ (by omega)]
  by_cases h1 : k < d.length
  · rw [if_pos (by omega), if_neg (by omega), if_pos (by omega), List.getElem?_append_left h1]
    congr 1
    omega
  · rw [List.getElem?_append_right (by omega), List.getElem?_drop, ckL_at]
    by_cases h2 : k < 32
    · rw [if_pos h2, if_neg (by omega), if_neg (by omega), if_pos (by omega)]
      congr 1
      omega
    · rw [if_neg h2, if_neg (by omega)]
theorem ckL_other (bs : List UInt8) (n i j : Nat) (d : List UInt8) (hl : bs.length = 32 * n) (hi : i < n) (hj : j < n) (hd : d.length ≤ 32) (hne : j ≠ i) : ckL (splice bs (i * 32) d) j = ckL bs j := by
  apply List.ext_getElem?
  intro k
  rw [ckL_at, ckL_at, splice_at _ _ _ (by omega)]
  by_cases h2 : k < 32
  · rw [if_pos h2, if_pos h2]
    by_cases h3 : j * 32 + k < i * 32
    · rw [if_pos h3]
    · rw [if_neg h3, if_neg (by omega)]
  · rw [if_neg h2, if_neg h2]
theorem splice_len (s : List UInt8) (o : Nat) (d : List UInt8) (h : o + d.length ≤ s.length) : (splice s o d).length = s.length := by
  unfold splice
  rw [List.length_append, List.length_append, List.length_take, List.length_drop]
  omega
theorem cks_set (bs : List UInt8) (n i : Nat) (d : List UInt8) (C : List Value) (hl : bs.length = 32 * n) (hi : i < n) (hd : d.length ≤ 32) :
    (cks bs n ++ C).set i (.string ⟨(d ++ (ckL bs i).drop d.length).toArray⟩) = cks (splice bs (i * 32) d) n ++ C := by
  rw [List.set_append, if_pos (by rw [cks_length]; exact hi)]
  congr 1
  apply List.ext_getElem?
  intro j
  by_cases hj : j < n
  · rw [cks_at _ _ _ hj, List.getElem?_set]
    by_cases he : i = j
    · subst he
      rw [if_pos rfl, if_pos (by rw [cks_length]; exact hi)]
      unfold ck
      rw [ckL_same bs n i d hl hi hd]
    · rw [if_neg he, cks_at _ _ _ hj]
      unfold ck
      rw [ckL_other bs n i j d hl hi hj hd (Ne.symm he)]
  · rw [List.getElem?_eq_none (by rw [List.length_set, cks_length]; omega), List.getElem?_eq_none (by rw [cks_length]; omega)]
/-- The reference's store s lies at block b, its blocks' texts in block l. -/
structure RefAt (w : World) (b l cap : Nat) (s : StoS) : Prop where
  head : Row w b [.slice (some ⟨l, 0, none⟩) s.n cap, .int .i64 s.fuse, .int .i64 s.pre, .bool s.down, .int .i64 s.writes] 40
  rest : ∃ C, Row w l (cks s.bs s.n ++ C) 9
  len : s.bs.length = 32 * s.n
  ne : b ≠ l
  few : s.n ≤ 256
  fuse0 : -1 ≤ s.fuse
  fuse1 : s.fuse ≤ 9223372036854775807
  pre1 : s.pre ≤ 32
theorem RefAt.fr {w w' : World} {b l cap : Nat} {s : StoS} {S : List Nat} (h : RefAt w b l cap s) (f : Fr S w w') (hb : b ∉ S) (hl : l ∉ S) : RefAt w' b l cap s := by
  obtain ⟨C, hr⟩ := h.rest
  exact ⟨h.head.fr f hb, ⟨C, hr.fr f hl⟩, h.len, h.ne, h.few, h.fuse0, h.fuse1, h.pre1⟩
theorem rread_any (b l cap : Nat) (s : StoS) (i : Int) (w : World) (h : RefAt w b l cap s) :
    Calls Try.prog 18 #[.pointer (some ⟨b, 0, none⟩), .int .i64 i] w fun e w' => e = .returned (.tuple #[.string (s.block i), .int .i64 (s.mayE i)]) ∧ w = w' := by
  have c0 := h.head.cell 0
  have c3 := h.head.cell 3
  simp at c0 c3
  have hfew := h.few
  unfold StoS.block
  by_cases hd : s.down = true
  · have hm : s.mayE i = 16 := by unfold StoS.mayE; rw [if_pos hd]
    rw [hm]
    rw [hd] at c3
    clear h
    go_enter Try.func18, Try.ntmps18
    go_wp2
    go_ret2
    exact ⟨rfl, rfl⟩
  · have hd : s.down = false := by simpa using hd
    rw [hd] at c3
    by_cases hi : 0 ≤ i ∧ i < s.n
    · have hm : s.mayE i = 0 := by unfold StoS.mayE; rw [if_neg (by rw [hd]; simp), if_pos hi]
      rw [hm, if_pos rfl]
      obtain ⟨h0, h1⟩ := hi
      obtain ⟨k, rfl⟩ := Int.eq_ofNat_of_zero_le h0
      have hk : k < s.n := by omega
      obtain ⟨C, hr⟩ := h.rest
      have c := hr.cell k
      rw [List.getElem?_append_left (by rw [cks_length]; exact hk), cks_at _ _ _ hk] at c
      unfold ck ckL at c
      have hd1 : decide ((k : Int) < 0) = false := by rw [decide_eq_false_iff_not]; omega
      have hd2 : decide (k ≥ s.n) = false := by rw [decide_eq_false_iff_not]; omega
      have hd3 : decide ((k : Int) ≥ s.n) = false := by rw [decide_eq_false_iff_not]; omega
      clear h hr hm
      generalize hx : List.take 32 (List.drop (k * 32) s.bs) = x at c
      have HX := Lib.hid hx
      clear hx
      go_enter Try.func18, Try.ntmps18
      go_wp2
      go_ret2
      exact ⟨by rw [← HX.out]; rfl, rfl⟩
    · have hm : s.mayE i = 3 := by unfold StoS.mayE; rw [if_neg (by rw [hd]; simp), if_neg hi]
      rw [hm]
      clear h hm
      by_cases h0 : i < 0
      · have hd1 : decide (i < 0) = true := by simpa using h0
        go_enter Try.func18, Try.ntmps18
        go_wp2
        go_ret2
        exact ⟨rfl, rfl⟩
      · have hd1 : decide (i < 0) = false := by simpa using h0
        have hd2 : decide (i ≥ s.n) = true := by rw [decide_eq_true_iff]; omega
        go_enter Try.func18, Try.ntmps18
        go_wp2
        go_ret2
        exact ⟨rfl, rfl⟩
theorem rup_any (b l cap : Nat) (s : StoS) (w : World) (h : RefAt w b l cap s) :
    Calls Try.prog 16 #[.pointer (some ⟨b, 0, none⟩)] w fun e w' => e = .returned (.tuple #[]) ∧ RefAt w' b l cap s.up ∧ Fr [b] w w' := by
  have c1 := h.head.cell 1
  have c3 := h.head.cell 3
  have f1 := h.head.frozen 1
  have f3 := h.head.frozen 3
  simp at c1 c3
  obtain ⟨C, hr⟩ := h.rest
  go_enter Try.func16, Try.ntmps16
  go_wp2
  go_end0
  refine ⟨rfl, ⟨?_, ⟨C, (hr.setCell_other _ _ (Ne.symm h.ne)).setCell_other _ _ (Ne.symm h.ne)⟩, h.len, h.ne, h.few, by simp [StoS.up], by simp [StoS.up], h.pre1⟩, ((Fr.refl _ _).setCell (by simp) _).setCell (by simp) _⟩
  exact (h.head.setCell 3 _).setCell 1 _
theorem rfuse_any (b l cap : Nat) (s : StoS) (n p : Int) (w : World) (h : RefAt w b l cap s) (hn : n ≤ 9223372036854775807) :
    Calls Try.prog 14 #[.pointer (some ⟨b, 0, none⟩), .int .i64 n, .int .i64 p] w fun e w' => e = .returned (.tuple #[]) ∧ RefAt w' b l cap (s.setFuse n p) ∧ Fr [b] w w' := by
  have c1 := h.head.cell 1
  have c2 := h.head.cell 2
  have f1 := h.head.frozen 1
  have f2 := h.head.frozen 2
  simp at c1 c2
  obtain ⟨C, hr⟩ := h.rest
  by_cases h1 : n < -1
  all_goals
    by_cases h2 : p < 0
    all_goals
      go_enter Try.func14, Try.ntmps14
      go_wp2
      go_end0
      refine ⟨rfl, ⟨?_, ⟨C, (hr.setCell_other _ _ (Ne.symm h.ne)).setCell_other _ _ (Ne.symm h.ne)⟩, h.len, h.ne, h.few, ?_, ?_, ?_⟩, ((Fr.refl _ _).setCell (by simp) _).setCell (by simp) _⟩
      · show Row _ b [_, .int .i64 (if n < -1 then -1 else n), .int .i64 ((if p < 0 then 0 else p.toNat % 33 : Nat) : Int), _, _] 40
        first | rw [if_pos ‹n < -1›] | rw [if_neg (show ¬ n < -1 by omega)]
        first | rw [if_pos ‹p < 0›] | rw [if_neg (show ¬ p < 0 by omega), show ((p.toNat % 33 : Nat) : Int) = p % 33 by omega]
        exact (h.head.setCell 1 _).setCell 2 _
      · simp [StoS.setFuse]; split <;> omega
      · simp [StoS.setFuse]; split <;> omega
      · simp [StoS.setFuse]; split <;> omega
/-- What a write leaves of the reference. -/
def RWrote (b l cap : Nat) (s : StoS) (n : Int) (w : World) (e : Ending) (w' : World) : Prop := e = .returned (.int .i64 n) ∧ RefAt w' b l cap s ∧ Fr [b, l] w w'
theorem rwrite_no (b l cap : Nat) (s : StoS) (i e0 : Int) (d : ByteArray) (w : World) (h : RefAt w b l cap s) (he : s.mayE i = e0) (hm : (e0 != 0) = true) :
    Calls Try.prog 12 #[.pointer (some ⟨b, 0, none⟩), .int .i64 i, .string d] w fun e w' => e = .returned (.int .i64 e0) ∧ w = w' := by
  have hC := rread_any b l cap s i w h
  rw [he] at hC
  clear h he
  go_enter Try.func12, Try.ntmps12
  go_wp2_with (go_at_call 18; refine hC.mono ?_; rintro e w' ⟨rfl, rfl⟩)
  go_ret
  exact ⟨rfl, rfl⟩
theorem rwrite_len (b l cap : Nat) (s : StoS) (i : Int) (d : ByteArray) (w : World) (h : RefAt w b l cap s) (he : s.mayE i = 0) (hm : d.size ≠ 32) :
    Calls Try.prog 12 #[.pointer (some ⟨b, 0, none⟩), .int .i64 i, .string d] w fun e w' => e = .returned (.int .i64 1) ∧ w = w' := by
  have hC := rread_any b l cap s i w h
  rw [he] at hC
  clear h he
  have hm' : ((d.size : Int) != 32) = true := by rw [bne_iff_ne]; omega
  clear hm
  go_enter Try.func12, Try.ntmps12
  go_wp2_with (go_at_call 18; refine hC.mono ?_; rintro e w' ⟨rfl, rfl⟩)
  go_ret
  exact ⟨rfl, rfl⟩
theorem rwrite_torn (b l cap : Nat) (s : StoS) (i : Int) (d : ByteArray) (w : World) (h : RefAt w b l cap s) (he : s.mayE i = 0) (hm : d.size = 32) (hf : s.fuse = 0) :
    Calls Try.prog 12 #[.pointer (some ⟨b, 0, none⟩), .int .i64 i, .string d] w (RWrote b l cap (s.write i d).2 (s.write i d).1 w) := by
  have hC := rread_any b l cap s i w h
  rw [he] at hC
  obtain ⟨hd, h0, h1⟩ := may_zero he
  obtain ⟨k, rfl⟩ := Int.eq_ofNat_of_zero_le h0
  have hk : k < s.n := by omega
  have hm' : ((d.size : Int) != 32) = false := by rw [bne_eq_false_iff_eq]; omega
  have c0 := h.head.cell 0
  have c1 := h.head.cell 1
  have c2 := h.head.cell 2
  have c3 := h.head.cell 3
  have g1 := h.head.frozen 1
  have g3 := h.head.frozen 3
  simp [hf] at c0 c1 c2 c3
  obtain ⟨C, hr⟩ := h.rest
  have c := hr.cell k
  rw [List.getElem?_append_left (by rw [cks_length]; exact hk), cks_at _ _ _ hk] at c
  unfold ck at c
  have gk := hr.frozen k
  have hpr1 := h.pre1
  have hck := ckL_length s.bs s.n k h.len hk
  have hset := cks_set s.bs s.n k (d.data.toList.take s.pre) C h.len hk (by rw [List.length_take]; omega)
  have hdl : (d.data.toList.take s.pre).length = s.pre := by rw [List.length_take]; have : d.data.toList.length = d.size := rfl; omega
  rw [hdl] at hset
  have hwr := StoS.write_tear he hm hf
  have hfew := h.few
  have HF := Lib.hid hf
  have HS := Lib.hid hset
  have HW := Lib.hid hwr
  have HH := Lib.hid h
  have HR := Lib.hid hr
  have HM := Lib.hid hm
  have hbl := h.ne
  have hcz := bsize (ckL s.bs k)
  rw [hck] at hcz
  have hstr : d.extract 0 s.pre ++ (⟨(ckL s.bs k).toArray⟩ : ByteArray).extract s.pre 32 = ⟨(d.data.toList.take s.pre ++ (ckL s.bs k).drop s.pre).toArray⟩ := by
    have e1 : d.extract 0 s.pre = ⟨(d.data.toList.take s.pre).toArray⟩ := by
      have := bx d.data.toList 0 s.pre
      rw [blist] at this
      simpa using this
    rw [e1, bx, bapp, List.take_of_length_le (l := (ckL s.bs k).drop s.pre) (by rw [List.length_drop]; omega)]
  have HT := Lib.hid hstr
  clear h hr hset hwr hf he hck hdl hstr
  generalize (⟨(ckL s.bs k).toArray⟩ : ByteArray) = X at c hcz HT
  have y1 : (d.extract 0 s.pre).size = s.pre := by rw [ByteArray.size_extract]; omega
  have y2 : (X.extract s.pre 32).size = 32 - s.pre := by rw [ByteArray.size_extract]; omega
  have y3 : ¬ 9223372036854775807 < s.pre + (32 - s.pre) := by omega
  have y4 : (s.pre : Int) ≤ d.size := by omega
  have y5 : (s.pre : Int) ≤ X.size := by omega
  have y6 : (s.pre : Int) ≤ 32 := by omega
  go_enter Try.func12, Try.ntmps12
  go_wp2_with (go_at_call 18; refine hC.mono ?_; rintro e w' ⟨rfl, rfl⟩)
  refine wp_region_still_tail 25 (by kernel_rfl) (by kernel_rfl) ?_
  simp only [List.take_succ_cons, List.take_zero, List.drop_succ_cons, List.drop_zero]
  repeat still_step
  refine wpStill_nil ?_
  go_wp2_with fail
  go_ret
  rw [HW.out]
  have hr2 : Row (((w.drewN 1).setCell ⟨l, k, none⟩ (.string (d.extract 0 s.pre ++ X.extract s.pre 32)))) l (cks (splice s.bs (k * 32) (d.data.toList.take s.pre)) s.n ++ C) 9 := by
    have := (HR.out.drewN 1).setCell k (.string (d.extract 0 s.pre ++ X.extract s.pre 32))
    rw [HT.out, HS.out] at this
    rw [HT.out]
    exact this
  have hlen : (splice s.bs (k * 32) (d.data.toList.take s.pre)).length = 32 * s.n := by
    have h1 := HH.out.len
    have h2 : (d.data.toList.take s.pre).length ≤ 32 := by rw [List.length_take]; omega
    rw [splice_len _ _ _ (by omega)]
    exact h1
  refine ⟨rfl, ⟨?_, ⟨C, (hr2.setCell_other _ _ (Ne.symm hbl)).setCell_other _ _ (Ne.symm hbl)⟩, hlen, hbl, HH.out.few, by simp, by simp, HH.out.pre1⟩, ((((Fr.refl _ _).drewN 1).setCell (by simp) _).setCell (by simp) _).setCell (by simp) _⟩
  exact (((HH.out.head.drewN 1).setCell_other _ _ hbl).setCell 3 _).setCell 1 _
theorem rwrite_ok (b l cap : Nat) (s : StoS) (i : Int) (d : ByteArray) (w : World) (h : RefAt w b l cap s) (he : s.mayE i = 0) (hm : d.size = 32) (hf : s.fuse ≠ 0) :
    Calls Try.prog 12 #[.pointer (some ⟨b, 0, none⟩), .int .i64 i, .string d] w (RWrote b l cap (s.write i d).2 (s.write i d).1 w) := by
  have hC := rread_any b l cap s i w h
  rw [he] at hC
  obtain ⟨hd, h0, h1⟩ := may_zero he
  obtain ⟨k, rfl⟩ := Int.eq_ofNat_of_zero_le h0
  have hk : k < s.n := by omega
  have hm' : ((d.size : Int) != 32) = false := by rw [bne_eq_false_iff_eq]; omega
  have c0 := h.head.cell 0
  have c1 := h.head.cell 1
  have c4 := h.head.cell 4
  have g1 := h.head.frozen 1
  have g4 := h.head.frozen 4
  simp at c0 c1 c4
  obtain ⟨C, hr⟩ := h.rest
  have c := hr.cell k
  rw [List.getElem?_append_left (by rw [cks_length]; exact hk), cks_at _ _ _ hk] at c
  have gk := hr.frozen k
  have hck := ckL_length s.bs s.n k h.len hk
  have hdl : d.data.toList.length = 32 := hm
  have hset := cks_set s.bs s.n k d.data.toList C h.len hk (by omega)
  rw [List.drop_eq_nil_of_le (by omega), List.append_nil, blist] at hset
  have hwr : s.write k d = (0, { s with bs := s.lay k d.data.toList, fuse := if s.fuse < 0 then -1 else s.fuse - 1, writes := wrap64 (s.writes + 1) }) := by
    unfold StoS.write
    rw [if_neg (by rw [he]; simp), if_neg (by rw [hm]; simp), if_neg hf]
  have hfew := h.few
  have fu0 := h.fuse0
  have fu1 := h.fuse1
  have HS := Lib.hid hset
  have HW := Lib.hid hwr
  have HH := Lib.hid h
  have HR := Lib.hid hr
  have HM := Lib.hid hm
  have hbl := h.ne
  have hz : (s.fuse == 0) = false := by simpa using hf
  have hlen : (splice s.bs (k * 32) d.data.toList).length = 32 * s.n := by
    have h1 := h.len
    rw [splice_len _ _ _ (by omega)]
    exact h1
  have HL := Lib.hid hlen
  clear h hr hset hwr he hck hdl hlen hf
  unfold ck at c
  generalize (⟨(ckL s.bs k).toArray⟩ : ByteArray) = X at c
  by_cases hp : 0 < s.fuse
  · have hd1 : decide (s.fuse > 0) = true := by simpa using hp
    go_enter Try.func12, Try.ntmps12
    go_wp2_with (go_at_call 18; refine hC.mono ?_; rintro e w' ⟨rfl, rfl⟩)
    go_ret
    rw [HW.out, if_neg (by omega)]
    refine ⟨rfl, ⟨?_, ⟨C, ?_⟩, HL.out, hbl, HH.out.few, by show -1 ≤ s.fuse - 1; omega, by show s.fuse - 1 ≤ _; omega, HH.out.pre1⟩, (((Fr.refl _ _).setCell (by simp) _).setCell (by simp) _).setCell (by simp) _⟩
    · exact (((HH.out.head.setCell 1 _).setCell_other _ _ hbl).setCell 4 _)
    · have h1 := (HR.out.setCell_other ⟨b, 1, none⟩ (.int .i64 (s.fuse - 1)) (Ne.symm hbl)).setCell k (.string d)
      rw [HS.out] at h1
      exact h1.setCell_other _ _ (Ne.symm hbl)
  · have hd1 : decide (s.fuse > 0) = false := by simpa using hp
    go_enter Try.func12, Try.ntmps12
    go_wp2_with (go_at_call 18; refine hC.mono ?_; rintro e w' ⟨rfl, rfl⟩)
    go_ret
    have hz' : s.fuse ≠ 0 := by simpa using hz
    have hf1 : s.fuse = -1 := by omega
    rw [HW.out, if_pos (by omega)]
    refine ⟨rfl, ⟨?_, ⟨C, ?_⟩, HL.out, hbl, HH.out.few, by show (-1 : Int) ≤ -1; omega, by show (-1 : Int) ≤ _; omega, HH.out.pre1⟩, ((Fr.refl _ _).setCell (by simp) _).setCell (by simp) _⟩
    · have h1 := HH.out.head
      rw [hf1] at h1
      exact ((h1.setCell_other _ _ hbl).setCell 4 _)
    · have h1 := HR.out.setCell k (.string d)
      rw [HS.out] at h1
      exact h1.setCell_other _ _ (Ne.symm hbl)
theorem rwrite_any (b l cap : Nat) (s : StoS) (i : Int) (d : ByteArray) (w : World) (h : RefAt w b l cap s) :
    Calls Try.prog 12 #[.pointer (some ⟨b, 0, none⟩), .int .i64 i, .string d] w (RWrote b l cap (s.write i d).2 (s.write i d).1 w) := by
  by_cases he : s.mayE i = 0
  · by_cases hm : d.size = 32
    · by_cases hf : s.fuse = 0
      · exact rwrite_torn b l cap s i d w h he hm hf
      · exact rwrite_ok b l cap s i d w h he hm hf
    · refine (rwrite_len b l cap s i d w h he hm).mono ?_
      rintro e w' ⟨rfl, rfl⟩
      have hw : s.write i d = (1, s) := by unfold StoS.write; rw [if_neg (by rw [he]; simp), if_pos hm]
      rw [hw]
      exact ⟨rfl, h, Fr.refl _ _⟩
  · refine (rwrite_no b l cap s i _ d w h rfl (by simpa using he)).mono ?_
    rintro e w' ⟨rfl, rfl⟩
    have hw : s.write i d = (s.mayE i, s) := by unfold StoS.write; rw [if_pos he]
    rw [hw]
    exact ⟨rfl, h, Fr.refl _ _⟩
end Go.Proofs.Ytgknnfajilfpeaa
