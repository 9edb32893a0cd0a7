/- The reference store made, and all its bytes. -/
import Derived.Test.YtgknnfajilfpeaaRSto
set_option linter.unusedVariables false
set_option linter.unusedSimpArgs false
namespace Go.Proofs.Ytgknnfajilfpeaa
open Go.RowKit

theorem infoStr : (Try.prog.info? 9).map (fun i => (i.zero, i.size, i.bytes)) = some (some (.string ⟨#[]⟩), 1, 16) := by kernel_rfl
def zs (j : Nat) : ByteArray := ⟨(List.replicate j 0).toArray⟩
theorem zs_size (j : Nat) : (zs j).size = j := by unfold zs; rw [bsize, List.length_replicate]
theorem zs_succ (j : Nat) : zs j ++ ⟨#[0]⟩ = zs (j + 1) := by
  unfold zs
  have := bapp (List.replicate j 0) [0]
  rw [List.replicate_succ']
  exact this
theorem own_slice {w : World} {base : Nat} {e : TypeId} {size n : Nat} {v : Value} {xs : List Value} (h : w.ownsRow base e size v n xs) : ∃ a c, v = .slice a n c := by
  rcases h.2 with ⟨rfl, rfl⟩ | ⟨g, cap, cur, rfl, _⟩
  · exact ⟨_, _, rfl⟩
  · exact ⟨_, _, rfl⟩
theorem own_fr {S : List Nat} {w w' : World} {base : Nat} {e : TypeId} {size n : Nat} {v : Value} {xs : List Value} (h : w.ownsRow base e size v n xs) (f : Fr S w w') (hS : ∀ k, k ∈ S → k < base) : w'.ownsRow base e size v n xs := by
  refine ⟨h.1, ?_⟩
  rcases h.2 with ⟨rfl, rfl⟩ | ⟨g, cap, cur, rfl, hb, hg, r⟩
  · exact .inl ⟨rfl, rfl⟩
  · exact .inr ⟨g, cap, cur, rfl, hb, (f.block g ((Array.getElem?_eq_some_iff.1 hg).1) (fun hk => by have := hS g hk; omega)).trans hg, r⟩
def RMade (n : Nat) (w : World) (e : Ending) (w' : World) : Prop := ∃ b l cap, w.heap.size ≤ b ∧ w.heap.size ≤ l ∧ e = .returned (.tuple #[.pointer (some ⟨b, 0, none⟩), .int .i64 0]) ∧ RefAt w' b l cap (StoS.fresh n) ∧ Fr [] w w'
theorem rnew_no (n : Int) (w : World) (h : n < 1 ∨ 256 < n) :
    Calls Try.prog 9 #[.int .i64 n] w fun e w' => e = .returned (.tuple #[.pointer none, .int .i64 1]) ∧ w = w' := by
  by_cases h0 : n < 1
  all_goals
    first | (have h1 : 256 < n := by omega) | skip
    clear h
    go_enter Try.func9, Try.ntmps9
    go_wp2
    go_ret2
    exact ⟨rfl, rfl⟩
theorem cks_fresh (n : Nat) : cks (List.replicate (n * 32) 0) n = List.replicate n (.string (zs 32)) := by
  apply List.ext_getElem?
  intro j
  by_cases hj : j < n
  · rw [cks_at _ _ _ hj, List.getElem?_replicate, if_pos hj]
    unfold ck ckL zs
    rw [List.drop_replicate, List.take_replicate, show min 32 (n * 32 - j * 32) = 32 by omega]
  · rw [List.getElem?_eq_none (by rw [cks_length]; omega), List.getElem?_eq_none (by rw [List.length_replicate]; omega)]
theorem rnew_ok (n : Nat) (w : World) (h0 : 1 ≤ n) (h1 : n ≤ 256) : Calls Try.prog 9 #[.int .i64 n] w (RMade n w) := by
  obtain ⟨i0, hi, hz0, hz1, hz2⟩ := info_parts infoStr
  have HI := Lib.hid hi
  have HZ0 := Lib.hid hz0
  have HZ1 := Lib.hid hz1
  have HZ2 := Lib.hid hz2
  clear hi hz0 hz1 hz2
  have a1 : ¬ (n : Int) < 1 := by omega
  have a2 : ¬ 256 < (n : Int) := by omega
  go_enter Try.func9, Try.ntmps9
  go_wp2_with fail
  go_loopg [4, 5] 32 (fun k s i wr => ∃ j : Nat, k = 32 - j ∧ j ≤ 32 ∧ i = .int .i64 j ∧ s = .string (zs j) ∧ w = wr)
  case atStart => exact ⟨0, rfl, by omega, rfl, rfl, rfl⟩
  case round =>
    obtain ⟨j, rfl, hj, rfl, rfl, rfl⟩ := hrel
    by_cases hjn : j < 32
    · have hd : decide ((j : Int) < 32) = true := by rw [decide_eq_true_iff]; omega
      have hz := zs_size j
      have hq : ¬ 9223372036854775807 < j + 1 := by omega
      have hs := zs_succ j
      generalize zs j = Z at hz hs ⊢
      have HS := Lib.hid hs
      clear hs
      go_wp2_with fail
      go_roundg (32 - (j + 1))
      case measure => omega
      case rel => exact ⟨j + 1, rfl, by omega, rfl, by rw [← HS.out], rfl⟩
    · have hd : decide ((j : Int) < 32) = false := by rw [decide_eq_false_iff_not]; omega
      obtain rfl : j = 32 := by omega
      generalize hZ : zs 32 = Z
      have HZ := Lib.hid hZ
      clear hZ hj hjn hd
      go_wp2_with fail
      go_loopg [7] n (fun k i wr => ∃ (j : Nat) (v : Value), k = n - j ∧ j ≤ n ∧ i = .int .i64 j ∧ Row wr w.heap.size [v, .int .i64 (-1), .int .i64 0, .bool false, .int .i64 0] 40 ∧ wr.ownsRow (w.heap.size + 1) 9 1 v j (List.replicate j (.string Z)) ∧ Fr [] w wr)
      case atStart => exact ⟨0, _, rfl, by omega, rfl, Row.new w [.slice none 0 0, .int .i64 (-1), .int .i64 0, .bool false, .int .i64 0] 40, World.ownsRow_nil _ _ _ _, (Fr.refl _ _).alloc _⟩
      case round =>
        obtain ⟨j, v, rfl, hj, rfl, hR, hO, hF⟩ := hrel
        obtain ⟨a, c, rfl⟩ := own_slice hO
        have R := Lib.hid hR
        have O := Lib.hid hO
        have F := Lib.hid hF
        have c0 := hR.cell 0
        simp at c0
        have hlt := hR.lt
        clear hR hO hF
        by_cases hjn : j < n
        · have hd : decide (j < n) = true := by rw [decide_eq_true_iff]; omega
          have hO3 : (wr.alloc (.cells #[.string Z] 9)).ownsRow (w.heap.size + 1) 9 1 (.slice a j c) j (List.replicate j (.string Z)) := own_fr (S := []) O.out (Fr.alloc (Fr.refl [] wr) _) (by simp)
          have hnew : ∀ i u, [Value.string Z][i]? = some u → (wr.alloc (.cells #[.string Z] 9)).cell? ((⟨wr.heap.size, 0, none⟩ : Addr).add i) = some u := by
            intro i u hi
            rw [Addr_add, Nat.zero_add]
            exact ((Row.new wr [Value.string Z] 9).cell i).trans hi
          have O3 := Lib.hid hO3
          have NW := Lib.hid hnew
          clear hO3 hnew
          go_wp2_with (at_builtin; refine wpList_append_own _ rfl _ _ 38 rfl (w.heap.size + 1) 9 i0 (.string ⟨#[]⟩) 1 16 Try.underlying38 HI.out HZ0.out HZ1.out HZ2.out rfl (by decide) _ _ _ rfl O3.out ⟨wr.heap.size, 0, none⟩ 1 1 [.string Z] rfl rfl NW.out (by simp [Value.oneCell']) ?c3 ?c4 ?c5 ?_)
          case c3 => unfold maxLen; omega
          case c4 => omega
          case c5 => simp; omega
          intro v' w3 hown' hgrow _
          have hR3 : Row w3 w.heap.size [.slice a j c, .int .i64 (-1), .int .i64 0, .bool false, .int .i64 0] 40 := by
            refine (hgrow.block w.heap.size (by simp; omega) ?_).trans (R.out.alloc _)
            intro he
            have := (O3.out.lt _ he.symm).1
            omega
          have hF4 : Fr [] w w3 := by
            refine (F.out.alloc (.cells #[.string Z] 9)).trans (Fr.of_grown hgrow ((Value.ownBlock (.slice a j c)).toList) (fun k hk => .inl (by simp [hk]))) ?_
            intro k hk
            simp only [Option.mem_toList] at hk
            have := (O3.out.lt k hk).1
            exact .inr (by omega)
          have hown2 : w3.ownsRow (w.heap.size + 1) 9 1 v' (j + 1) (List.replicate (j + 1) (.string Z)) := by
            rw [List.replicate_succ']
            exact hown'
          obtain ⟨a', c', rfl⟩ := own_slice hown2
          have O4 := Lib.hid hown2
          have F4 := Lib.hid hF4
          have R3 := Lib.hid hR3
          have d0 := hR3.cell 0
          have g0 := hR3.frozen 0
          simp at d0
          clear hown' hgrow hF4 hown2 hR3
          go_wp2_with fail
          go_roundg (n - (j + 1))
          case measure => omega
          case rel => exact ⟨j + 1, _, rfl, by omega, rfl, R3.out.setCell 0 _, own_fr (S := [w.heap.size]) O4.out ((Fr.refl _ _).setCell (by simp) _) (by simp), F4.out.setCell (.inr (Nat.le_refl _)) _⟩
        · have hd : decide (j < n) = false := by rw [decide_eq_false_iff_not]; omega
          obtain rfl : j = n := by omega
          go_wp2_with fail
          go_ret2
          rcases O.out.2 with ⟨_, hz⟩ | ⟨g, cap, cur, hv, hb, hg, hnc, hcm, hcs, ht⟩
          · omega
          · injection hv with hv1 hv2 hv3
            subst hv1 hv3
            refine ⟨w.heap.size, g, c, Nat.le_refl _, by omega, rfl, ⟨R.out, ⟨cur.toList.drop j, ?_⟩, by simp [StoS.fresh]; omega, by omega, h1, by simp [StoS.fresh], by simp [StoS.fresh], by simp [StoS.fresh]⟩, F.out⟩
            show wr.heap[g]? = some (.cells (cks (List.replicate (j * 32) 0) j ++ cur.toList.drop j).toArray 9 (0, 0))
            rw [cks_fresh, HZ.out, ← ht, Nat.mul_one, List.take_append_drop]
            exact hg
theorem rbytes_any (b l cap : Nat) (s : StoS) (w : World) (h : RefAt w b l cap s) :
    Calls Try.prog 23 #[.pointer (some ⟨b, 0, none⟩)] w fun e w' => e = .returned (.string ⟨s.bs.toArray⟩) ∧ w = w' := by
  have c0 := h.head.cell 0
  simp at c0
  have hfew := h.few
  have hlen := h.len
  obtain ⟨C, hr⟩ := h.rest
  have HR := Lib.hid hr
  clear h hr
  go_enter Try.func23, Try.ntmps23
  go_wp2_with fail
  go_loopg [3, 4] s.n (fun k t i wr => ∃ j : Nat, k = s.n - j ∧ j ≤ s.n ∧ i = .int .i64 j ∧ t = .string ⟨(s.bs.take (j * 32)).toArray⟩ ∧ w = wr)
  case atStart => exact ⟨0, rfl, by omega, rfl, by simp, rfl⟩
  case round =>
    obtain ⟨j, rfl, hj, rfl, rfl, rfl⟩ := hrel
    by_cases hjn : j < s.n
    · have hd : decide (j < s.n) = true := by rw [decide_eq_true_iff]; omega
      have c := HR.out.cell j
      rw [List.getElem?_append_left (by rw [cks_length]; exact hjn), cks_at _ _ _ hjn] at c
      unfold ck at c
      have hck := ckL_length s.bs s.n j hlen hjn
      have hz1 := bsize (ckL s.bs j)
      rw [hck] at hz1
      have hz2 := bsize (s.bs.take (j * 32))
      rw [List.length_take, Nat.min_eq_left (by omega)] at hz2
      have hap : (⟨(s.bs.take (j * 32)).toArray⟩ : ByteArray) ++ ⟨(ckL s.bs j).toArray⟩ = ⟨(s.bs.take ((j + 1) * 32)).toArray⟩ := by
        rw [bapp]
        unfold ckL
        rw [take_seg]
      generalize (⟨(s.bs.take (j * 32)).toArray⟩ : ByteArray) = A at hz2 hap ⊢
      generalize (⟨(ckL s.bs j).toArray⟩ : ByteArray) = B at hz1 hap c
      have AP := Lib.hid hap
      have hq : ¬ 9223372036854775807 < j * 32 + 32 := by omega
      clear hap hck
      go_wp2_with fail
      go_roundg (s.n - (j + 1))
      case measure => omega
      case rel => exact ⟨j + 1, rfl, by omega, rfl, by rw [← AP.out], rfl⟩
    · have hd : decide (j < s.n) = false := by rw [decide_eq_false_iff_not]; omega
      obtain rfl : j = s.n := by omega
      have hfull : s.bs.take (s.n * 32) = s.bs := List.take_of_length_le (by omega)
      rw [hfull]
      go_wp2_with fail
      go_ret
      exact ⟨rfl, rfl⟩
end Go.Proofs.Ytgknnfajilfpeaa
