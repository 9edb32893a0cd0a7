/- Plain laws on the store's plain state. -/
import Derived.Test.YtgknnfajilfpeaaSto4
set_option linter.unusedVariables false
set_option linter.unusedSimpArgs false
namespace Go.Proofs.Ytgknnfajilfpeaa
open Go.RowKit

theorem bx (l : List UInt8) (a b : Nat) : (⟨l.toArray⟩ : ByteArray).extract a b = ⟨((l.drop a).take (b - a)).toArray⟩ := by
  apply ByteArray.ext
  rw [ByteArray.data_extract]
  apply Array.ext'
  rw [Array.toList_extract]
theorem bapp (l m : List UInt8) : (⟨l.toArray⟩ : ByteArray) ++ ⟨m.toArray⟩ = ⟨(l ++ m).toArray⟩ := by
  apply ByteArray.ext
  simp
theorem blist (s : ByteArray) : (⟨s.data.toList.toArray⟩ : ByteArray) = s := rfl
theorem bsize (l : List UInt8) : (⟨l.toArray⟩ : ByteArray).size = l.length := rfl
/-- A store that has no fuse and is up. -/
structure Plain (n : Nat) (s : StoS) : Prop where
  n : s.n = n
  down : s.down = false
  fuse : s.fuse = -1
theorem Plain.fresh (n : Nat) : Plain n (StoS.fresh n) := ⟨rfl, rfl, rfl⟩
theorem Plain.write {n : Nat} {s : StoS} (h : Plain n s) (i : Int) (d : ByteArray) : Plain n (s.write i d).2 := by
  unfold StoS.write
  split
  · exact h
  · split
    · exact h
    · split
      · rename_i hf; rw [h.fuse] at hf; omega
      · exact ⟨h.n, h.down, by show (if s.fuse < 0 then (-1 : Int) else s.fuse - 1) = -1; rw [if_pos (by rw [h.fuse]; omega)]⟩

theorem StoS.write_good {s : StoS} {i : Int} {d : ByteArray} (he : s.mayE i = 0) (hz : d.size = 32) (hf : s.fuse ≠ 0) : (s.write i d).1 = 0 := by
  unfold StoS.write
  rw [if_neg (by simpa using he), if_neg (by simpa using hz), if_neg hf]
theorem StoS.write_tear {s : StoS} {i : Int} {d : ByteArray} (he : s.mayE i = 0) (hz : d.size = 32) (hf : s.fuse = 0) : s.write i d = (16, { s with bs := s.lay i (d.data.toList.take s.pre), down := true, fuse := -1 }) := by
  unfold StoS.write
  rw [if_neg (by simpa using he), if_neg (by simpa using hz), if_pos hf]
theorem StoS.write_down {s : StoS} {i : Int} {d : ByteArray} (hd : s.down = true) : s.write i d = (16, s) := by
  have he : s.mayE i = 16 := by unfold StoS.mayE; rw [if_pos hd]
  unfold StoS.write
  rw [he, if_pos (by decide)]
theorem StoS.may_ok {s : StoS} {i : Int} (hd : s.down = false) (h0 : 0 ≤ i) (h1 : i < s.n) : s.mayE i = 0 := by
  unfold StoS.mayE
  rw [if_neg (by simp [hd]), if_pos ⟨h0, h1⟩]
/-- What the law's tail asks. -/
structure TornTail (n k p : Nat) (s : StoS) (d : ByteArray) : Prop where
  e1 : ((s.setFuse 0 p).write k (blockS d)).1 = 16
  e2 : ((s.setFuse 0 p).write k (blockS d)).2.down = true
  e3 : ∀ x, ((s.setFuse 0 p).write k (blockS d)).2.write 0 x = (16, ((s.setFuse 0 p).write k (blockS d)).2)
  e4 : ((s.setFuse 0 p).write k (blockS d)).2.up.n = n
  e5 : (⟨((s.setFuse 0 p).write k (blockS d)).2.up.bs.toArray⟩ : ByteArray) = (⟨s.bs.toArray⟩ : ByteArray).extract 0 (k * 32) ++ (blockS d).extract 0 p ++ (⟨s.bs.toArray⟩ : ByteArray).extract (k * 32 + p) (⟨s.bs.toArray⟩ : ByteArray).size
  e6 : (((s.setFuse 0 p).write k (blockS d)).2.up.write k (blockS d)).1 = 0
theorem torn_tail (n : Nat) (s : StoS) (d : ByteArray) (h : Plain n s) (hl : s.bs.length = 32 * s.n) : ∀ k p, k < n → p < 33 → TornTail n k p s d := by
  intro k p hk hp
  have hn := h.n
  have hz := blockS_size d
  have hpre : (s.setFuse 0 p).pre = p := by
    show (if (p : Int) < 0 then 0 else (p : Int).toNat % 33) = p
    rw [if_neg (by omega)]; omega
  have hw := StoS.write_tear (s := s.setFuse 0 p) (i := k) (d := blockS d) (StoS.may_ok h.down (by omega) (by show (k : Int) < s.n; omega)) hz rfl
  rw [hpre] at hw
  have hdl : (blockS d).data.toList.length = 32 := hz
  have htl : ((blockS d).data.toList.take p).length = p := by rw [List.length_take, hdl]; omega
  refine ⟨by rw [hw], by rw [hw], fun x => ?_, by rw [hw]; exact hn, ?_, ?_⟩
  · rw [hw]
    exact StoS.write_down rfl
  · rw [hw]
    show (⟨(splice s.bs ((k : Int).toNat * 32) ((blockS d).data.toList.take p)).toArray⟩ : ByteArray) = _
    rw [← blist (blockS d), bx, bx, bx, bapp, bapp, bsize]
    congr 2
    rw [List.drop_zero, List.drop_zero, Int.toNat_natCast, Nat.sub_zero, Nat.sub_zero, List.take_of_length_le (l := s.bs.drop (k * 32 + p)) (by rw [List.length_drop]; omega)]
    unfold splice
    rw [htl, List.append_assoc]
  · rw [hw]
    refine StoS.write_good (StoS.may_ok rfl (by omega) (by show (k : Int) < s.n; omega)) hz ?_
    show (-1 : Int) ≠ 0
    omega
end Go.Proofs.Ytgknnfajilfpeaa
