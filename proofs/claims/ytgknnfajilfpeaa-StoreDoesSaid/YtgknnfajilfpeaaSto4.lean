/- The law's own helpers: awake. -/
import Derived.Test.YtgknnfajilfpeaaSto3
set_option linter.unusedVariables false
set_option linter.unusedSimpArgs false
namespace Go.Proofs.Ytgknnfajilfpeaa
open Go.RowKit

theorem StoAt.fr {w w' : World} {b l cap : Nat} {s : StoS} {S : List Nat} (h : StoAt w b l cap s) (f : Fr S w w') (hb : b ∉ S) (hl : l ∉ S) : StoAt w' b l cap s := by
  obtain ⟨C, hr⟩ := h.rest
  exact ⟨h.head.fr f hb, ⟨C, hr.fr f hl⟩, h.len, h.cap, h.ne, h.few, h.fuse0, h.fuse1, h.pre1⟩
theorem StoAt.drewN {w : World} {b l cap : Nat} {s : StoS} (h : StoAt w b l cap s) (n : Nat) : StoAt (w.drewN n) b l cap s :=
  ⟨h.head, h.rest, h.len, h.cap, h.ne, h.few, h.fuse0, h.fuse1, h.pre1⟩
theorem StoAt.lt {w : World} {b l cap : Nat} {s : StoS} (h : StoAt w b l cap s) : b < w.heap.size ∧ l < w.heap.size := by
  obtain ⟨C, hr⟩ := h.rest
  exact ⟨h.head.lt, hr.lt⟩

def sOne : ByteArray := ⟨#[111, 110, 101]⟩
def sTwo : ByteArray := ⟨#[116, 119, 111]⟩
def sXYZ : ByteArray := ⟨#[88, 89, 90]⟩
def sShort : ByteArray := ⟨#[115, 104, 111, 114, 116]⟩
def aw0 : StoS := StoS.fresh 3
def aw1 : StoS := (aw0.write 1 (blockS sOne)).2
def aw2 : StoS := aw1.setFuse 1 2
def aw3 : StoS := (aw2.write 2 (blockS sTwo)).2
def aw4 : StoS := (aw3.write 1 (blockS sXYZ)).2
def aw5 : StoS := aw4.up
theorem v1 : (aw0.write 1 (blockS sOne)).1 = 0 := by decide +kernel
theorem v2 : aw1.block 1 = blockS sOne := by decide +kernel
theorem v2' : aw1.mayE 1 = 0 := by decide +kernel
theorem v3 : (aw1.write 1 sShort) = (1, aw1) := by rfl
theorem v4 : (aw2.write 2 (blockS sTwo)).1 = 0 := by decide +kernel
theorem v5 : (aw3.write 1 (blockS sXYZ)).1 = 16 := by decide +kernel
theorem v6 : aw4.mayE 1 = 16 := by decide +kernel
theorem v6' : aw4.block 1 = .empty := by decide +kernel
theorem v7 : aw4.down = true := by decide +kernel
theorem v8 : aw5.mayE 1 = 0 := by decide +kernel
theorem v8' : aw5.block 1 = ⟨#[88, 89]⟩ ++ (blockS sOne).extract 2 32 := by decide +kernel
theorem v9 : aw5.mayE 3 = 3 := by decide +kernel
theorem v9' : aw5.block 3 = .empty := by decide +kernel
theorem v10 : aw5.writes = 2 := by decide +kernel
theorem v11 : aw5.n = 3 := by decide +kernel
theorem v12 : (⟨aw5.bs.toArray⟩ : ByteArray).size = 96 := by decide +kernel
theorem v13 : ((⟨aw5.bs.toArray⟩ : ByteArray).extract 64 67).toList = [116, 119, 111] := by decide +kernel
theorem v14 : aw5.down = false := by decide +kernel

theorem write_is {b l cap : Nat} {s s' : StoS} {i n : Int} {d : ByteArray} {w : World} (h : StoAt w b l cap s) (hn : (s.write i d).1 = n) (hs : (s.write i d).2 = s') :
    Calls Try.prog 11 #[.pointer (some ⟨b, 0, none⟩), .int .i64 i, .string d] w (Wrote b l cap s' n w) := hn ▸ hs ▸ write_any b l cap s i d w h
theorem read_is {b l cap : Nat} {s : StoS} {i n : Int} {r : ByteArray} {w : World} (h : StoAt w b l cap s) (hn : s.mayE i = n) (hr : s.block i = r) :
    Calls Try.prog 17 #[.pointer (some ⟨b, 0, none⟩), .int .i64 i] w (Told r n w) := hn ▸ hr ▸ read_any b l cap s i w h
theorem down_is {b l cap : Nat} {s : StoS} {t : Bool} {w : World} (h : StoAt w b l cap s) (ht : s.down = t) :
    Calls Try.prog 19 #[.pointer (some ⟨b, 0, none⟩)] w fun e w' => e = .returned (.bool t) ∧ w = w' := ht ▸ down_any b l cap s w h
theorem writes_is {b l cap : Nat} {s : StoS} {n : Int} {w : World} (h : StoAt w b l cap s) (hn : s.writes = n) :
    Calls Try.prog 20 #[.pointer (some ⟨b, 0, none⟩)] w fun e w' => e = .returned (.int .i64 n) ∧ w = w' := hn ▸ writes_any b l cap s w h
theorem blocks_is {b l cap : Nat} {s : StoS} {n : Nat} {w : World} (h : StoAt w b l cap s) (hn : s.n = n) :
    Calls Try.prog 21 #[.pointer (some ⟨b, 0, none⟩)] w fun e w' => e = .returned (.int .i64 n) ∧ w = w' := hn ▸ blocks_any b l cap s w h
def sAll : ByteArray := ⟨aw5.bs.toArray⟩

set_option maxRecDepth 100000 in
set_option maxHeartbeats 1000000 in
theorem awake_any (w : World) : Calls Try.prog 7 #[] w fun e w' => e = .returned (.bool true) ∧ Below w.heap.size w w' := by
  go_enter Try.func7, Try.ntmps7
  go_wp2_with fail
  refine (new_ok 3 w (by omega) (by omega)).mono ?_
  rintro e w1 ⟨b, l, hb, hl, rfl, hs1, hf1⟩
  have S1 := Lib.hid hs1
  have F1 := Lib.hid hf1
  clear hs1 hf1
  go_wp2_with fail
  refine (new_no 0 w1 (by omega)).mono ?_
  rintro e w1' ⟨rfl, rfl⟩
  go_wp2_with fail
  refine (block_any sOne w1 (by decide)).mono ?_
  rintro e w1' ⟨rfl, rfl⟩
  go_wp2_with fail
  refine (write_is (s' := aw1) S1.out v1 rfl).mono ?_
  rintro e w2 ⟨rfl, hs, hf⟩
  have S2 := Lib.hid hs
  have F2 := Lib.hid (F1.out.trans (T := [b, l]) hf (by simp; omega))
  clear hs hf S1 F1
  go_wp2_with fail
  refine (read_is S2.out v2' v2).mono ?_
  rintro e w3 ⟨rfl, hf⟩
  have S3 := Lib.hid (S2.out.fr hf (by simp) (by simp))
  have F3 := Lib.hid (F2.out.trans (T := []) hf (by simp))
  clear hf S2 F2
  go_wp2_with fail
  refine (write_is (d := sShort) (n := 1) (s' := aw1) S3.out (by rw [v3]) (by rw [v3])).mono ?_
  rintro e w4 ⟨rfl, hs, hf⟩
  have S4 := Lib.hid hs
  have F4 := Lib.hid (F3.out.trans (T := [b, l]) hf (by simp; omega))
  clear hs hf S3 F3
  go_wp2_with fail
  refine (fuse_any b l 3 aw1 1 2 w4 S4.out (by omega)).mono ?_
  rintro e w5 ⟨rfl, hs, hf⟩
  have S5 : Hid (StoAt w5 b l 3 aw2) := Lib.hid hs
  have F5 := Lib.hid (F4.out.trans (T := [b]) hf (by simp; omega))
  clear hs hf S4 F4
  go_wp2_with fail
  refine (block_any sTwo w5 (by decide)).mono ?_
  rintro e w5' ⟨rfl, rfl⟩
  go_wp2_with fail
  refine (write_is (s' := aw3) S5.out v4 rfl).mono ?_
  rintro e w6 ⟨rfl, hs, hf⟩
  have S6 := Lib.hid hs
  have F6 := Lib.hid (F5.out.trans (T := [b, l]) hf (by simp; omega))
  clear hs hf S5 F5
  go_wp2_with fail
  refine (block_any sXYZ w6 (by decide)).mono ?_
  rintro e w6' ⟨rfl, rfl⟩
  go_wp2_with fail
  refine (write_is (s' := aw4) S6.out v5 rfl).mono ?_
  rintro e w7 ⟨rfl, hs, hf⟩
  have S7 := Lib.hid hs
  have F7 := Lib.hid (F6.out.trans (T := [b, l]) hf (by simp; omega))
  clear hs hf S6 F6
  go_wp2_with fail
  refine (read_is S7.out v6 v6').mono ?_
  rintro e w8 ⟨rfl, hf⟩
  have S8 := Lib.hid (S7.out.fr hf (by simp) (by simp))
  have F8 := Lib.hid (F7.out.trans (T := []) hf (by simp))
  clear hf S7 F7
  go_wp2_with fail
  refine (down_is S8.out v7).mono ?_
  rintro e w8' ⟨rfl, rfl⟩
  go_wp2_with fail
  refine (copy_any b l 3 aw4 w8 S8.out (by decide)).mono ?_
  rintro e w9 ⟨b2, l2, c2, hb2, hl2, rfl, hk, hf⟩
  have S9 := Lib.hid (S8.out.fr hf (by simp) (by simp))
  have hlt := S8.out.lt
  have K9 := Lib.hid hk
  have F9 := Lib.hid (F8.out.trans (T := []) hf (by simp))
  clear hf hk S8 F8
  go_wp2_with fail
  refine (up_any b l 3 aw4 w9 S9.out).mono ?_
  rintro e w10 ⟨rfl, hs, hf⟩
  have S10 : Hid (StoAt w10 b l 3 aw5) := Lib.hid hs
  have K10 := Lib.hid (K9.out.fr hf (by simp; omega) (by simp; omega))
  have F10 := Lib.hid (F9.out.trans (T := [b]) hf (by simp; omega))
  clear hs hf S9 K9 F9
  go_wp2_with fail
  refine (read_is S10.out v8 v8').mono ?_
  rintro e w11 ⟨rfl, hf⟩
  have S11 := Lib.hid (S10.out.fr hf (by simp) (by simp))
  have K11 := Lib.hid (K10.out.fr hf (by simp) (by simp))
  have F11 := Lib.hid (F10.out.trans (T := []) hf (by simp))
  clear hf S10 K10 F10
  go_wp2_with fail
  refine (read_is S11.out v9 v9').mono ?_
  rintro e w12 ⟨rfl, hf⟩
  have S12 := Lib.hid (S11.out.fr hf (by simp) (by simp))
  have K12 := Lib.hid (K11.out.fr hf (by simp) (by simp))
  have F12 := Lib.hid (F11.out.trans (T := []) hf (by simp))
  clear hf S11 K11 F11
  go_wp2_with fail
  refine (bytes_any b l 3 aw5 w12 S12.out (by decide)).mono ?_
  rintro e w13 ⟨rfl, hf⟩
  have S13 := Lib.hid (S12.out.fr (Fr.of_below hf []) (by simp) (by simp))
  have K13 := Lib.hid (K12.out.fr (Fr.of_below hf []) (by simp) (by simp))
  have F13 := Lib.hid (F12.out.trans (T := []) (Fr.of_below hf []) (by simp))
  clear hf S12 K12 F12
  have a1 : (blockS sOne).size = 32 := blockS_size _
  have a2 := v12
  have a3 := v13
  have B1 : Calls Try.prog 10 #[.string sOne] w13 fun e w' => e = .returned (.string (blockS sOne)) ∧ w13 = w' := block_any sOne w13 (by decide)
  generalize blockS sOne = o1 at a1 B1 ⊢
  generalize (⟨aw5.bs.toArray⟩ : ByteArray) = al at a2 a3 ⊢
  go_wp2_with (first | (go_at_call 10; refine B1.mono ?_; rintro e w' ⟨rfl, rfl⟩) | (go_at_call 20; refine (writes_is S13.out v10).mono ?_; rintro e w' ⟨rfl, rfl⟩) | (go_at_call 21; refine (blocks_is S13.out v11).mono ?_; rintro e w' ⟨rfl, rfl⟩) | (go_at_call 19; (with_reducible refine (down_is K13.out v7).mono ?_); rintro e w' ⟨rfl, rfl⟩) | (go_at_call 19; (with_reducible refine (down_is S13.out v14).mono ?_); rintro e w' ⟨rfl, rfl⟩))
  go_ret
  exact ⟨rfl, F13.out.nil_below⟩
end Go.Proofs.Ytgknnfajilfpeaa
