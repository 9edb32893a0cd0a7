/- The reference's scan. -/
import Derived.Test.YtghahdddjpofdaaLRef


set_option linter.unusedVariables false
set_option linter.unusedSimpArgs false
namespace Go.Proofs.Ytghahdddjpofdaa
open Go.RowKit

theorem recN_drop (s : ByteArray) (k : Nat) (h : k + 8 < s.size) : recN (s.data.toList.drop k) = (s[k + 1]'(by omega)).toNat * 256 + (s[k + 2]'(by omega)).toNat := by
  unfold recN
  rw [List.getD_eq_getElem?_getD, List.getD_eq_getElem?_getD, List.getElem?_drop, List.getElem?_drop, ← List.getD_eq_getElem?_getD, ← List.getD_eq_getElem?_getD, getD_at s (k + 1) (by omega), getD_at s (k + 2) (by omega)]
/-- What the reference asks of a record is what the scan asks. -/
theorem oneB_ref {d : List UInt8} (h9 : 9 ≤ d.length) (h1 : 1 ≤ recN d) (h4 : recN d ≤ 400) (h8 : recN d + 8 ≤ d.length) :
    oneB d = (d.take (recN d + 8) == frameL (recL d)) := by
  have hl : (frameL (recL d)).length = recN d + 8 := by
    rw [frameL_length]
    unfold recL
    rw [List.length_take, List.length_drop]
    omega
  unfold oneB hasP
  rw [decide_eq_true h9, decide_eq_true h1, decide_eq_true h4, decide_eq_true h8, hl]
  simp only [Bool.true_and, Bool.and_true]
  by_cases he : d.take (recN d + 8) = frameL (recL d)
  · have hd : d.getD 0 0 = 1 := by
      have h2 : (d.take (recN d + 8))[0]? = some 1 := by rw [he]; rfl
      rw [List.getElem?_take, if_pos (by omega)] at h2
      rw [List.getD_eq_getElem?_getD, h2]
      rfl
    rw [hd]
    simp
  · have : (d.take (recN d + 8) == frameL (recL d)) = false := by simpa using he
    rw [this, Bool.and_false]
theorem oneB_no {d : List UInt8} (h : d.length < 9 ∨ recN d < 1 ∨ 400 < recN d ∨ d.length < recN d + 8) : oneB d = false := by
  cases hb : oneB d with
  | false => rfl
  | true =>
    obtain ⟨h1, h2, h3, h4, h5⟩ := oneB_len hb
    omega
theorem own_none0 {w : World} {base : Nat} {g c : Nat} (cur : Array Value) (h : w.heap[g]? = some (.cells cur 9 (0, 0))) (hb : base ≤ g) (hc : cur.size = c) (hm : c ≤ maxLen) :
    w.ownsRow base 9 1 (.slice (some ⟨g, 0, none⟩) 0 c) 0 [] := ⟨rfl, .inr ⟨g, c, cur, rfl, hb, h, Nat.zero_le _, hm, by omega, by simp⟩⟩
theorem rscan_any (s : ByteArray) (w : World) (hs : s.size ≤ 1000000) : Calls Try.prog 11 #[.string s] w (ScanP s w) := by
  obtain ⟨i0, hi, hz0, hz1, hz2⟩ := info_parts infoStr
  have HI := Lib.hid hi
  have HZ0 := Lib.hid hz0
  have HZ1 := Lib.hid hz1
  have HZ2 := Lib.hid hz2
  clear hi hz0 hz1 hz2
  have HW := Lib.hid (World.ownsRow_nil w w.heap.size 9 1)
  go_enter Try.func11, Try.ntmps11
  go_wp2_with fail
  go_loopg [4, 5] s.size (fun k v t wr => ∃ L, k = s.size - lenA L ∧ Mid s.data.toList L ∧ t = .int .i64 (lenA L) ∧ wr.ownsRow w.heap.size 9 1 v L.length (L.map str) ∧ Fr [] w wr)
  case atStart => exact ⟨[], rfl, Mid.nil _, rfl, own_none0 #[] (heap_alloc_new w _) (Nat.le_refl _) rfl (by unfold maxLen; omega), (Fr.refl _ _).alloc _⟩
  case round =>
    obtain ⟨L, rfl, hM, rfl, hO, hF⟩ := hrel
    have O := Lib.hid hO
    have F := Lib.hid hF
    have M := Lib.hid hM
    obtain ⟨a, c, rfl⟩ := own_slice hO
    have hle : lenA L ≤ s.size := hM.le
    have hll := len_le L
    clear hO hF hM
    have hdl : (s.data.toList.drop (lenA L)).length = s.size - lenA L := by rw [List.length_drop]; rfl
    by_cases h8 : lenA L + 8 < s.size
    · have hd : decide (((lenA L : Nat) : Int) + 8 < s.size) = true := by rw [decide_eq_true_iff]; omega
      have hn := recN_drop s (lenA L) h8
      obtain ⟨A1, hA1⟩ : ∃ A1, A1 = lenA L + 1 := ⟨_, rfl⟩
      obtain ⟨A2, hA2⟩ : ∃ A2, A2 = lenA L + 2 := ⟨_, rfl⟩
      have i1 : A1 < s.size := by omega
      have i2 : A2 < s.size := by omega
      have b1 := s[A1].toNat_lt
      have b2 := s[A2].toNat_lt
      have hn2 : recN (s.data.toList.drop (lenA L)) = s[A1].toNat * 256 + s[A2].toNat := by
        rw [hn]; subst hA1 hA2; rfl
      have q1 : IntKind.i64.wrap (((lenA L : Nat) : Int) + 1) = (A1 : Int) := by rw [hA1]; exact IntWalk.i64_in _ (by omega)
      have q2 : IntKind.i64.wrap (((lenA L : Nat) : Int) + 2) = (A2 : Int) := by rw [hA2]; exact IntWalk.i64_in _ (by omega)
      have q3 : IntKind.i64.wrap (s[A1].toNat : Int) = (s[A1].toNat : Int) := IntWalk.i64_in _ (by omega)
      have q4 : IntKind.i64.wrap (s[A2].toNat : Int) = (s[A2].toNat : Int) := IntWalk.i64_in _ (by omega)
      have q5 : IntKind.i64.wrap (256 * (s[A1].toNat : Int)) = 256 * (s[A1].toNat : Int) := IntWalk.i64_in _ (by omega)
      have q6 : IntKind.i64.wrap (256 * (s[A1].toNat : Int) + (s[A2].toNat : Int)) = ((recN (s.data.toList.drop (lenA L)) : Nat) : Int) := by rw [hn2]; rw [IntWalk.i64_in _ (by omega)]; omega
      have i01 : (A1 : Int) < (s.size : Int) := by omega
      have i02 : (A2 : Int) < (s.size : Int) := by omega
      have hN : recN (s.data.toList.drop (lenA L)) < 65536 := by omega
      clear hn hn2 hA1 hA2
      generalize hnn : recN (s.data.toList.drop (lenA L)) = n at q6 hN
      have HNN := Lib.hid hnn
      clear hnn
      go_wp2_with fail
      go_still (by kernel_rfl)
      clear q1 q2 q3 q4 q5 hd b1 b2
      generalize (s[A1].toNat : Int) = y1
      generalize (s[A2].toNat : Int) = y2
      have stop : ∀ (B : oneB (s.data.toList.drop (lenA L)) = false), ScanP s w (.returned (.tuple #[.slice a L.length c, .int .i64 (lenA L)])) (wr.drewN 1) := by
        intro B
        have hlast := M.out.last B
        refine ⟨_, by rw [hlast], ?_, F.out.drewN 1⟩
        rw [hlast]
        exact own_fr O.out ((Fr.refl _ _).drewN 1)
      have STOP := Lib.hid stop
      have LAST := Lib.hid M.out.last
      clear stop
      by_cases hc1 : n < 1
      · have hd1 : decide ((n : Int) < 1) = true := by rw [decide_eq_true_iff]; omega
        go_wp2_with fail
        go_ret2
        exact STOP.out (oneB_no (.inr (.inl (by rw [HNN.out]; omega))))
      · have hd1 : decide ((n : Int) < 1) = false := by rw [decide_eq_false_iff_not]; omega
        by_cases hc2 : 400 < n
        · have hd2 : decide ((n : Int) > 400) = true := by rw [decide_eq_true_iff]; omega
          go_wp2_with fail
          go_ret2
          exact STOP.out (oneB_no (.inr (.inr (.inl (by rw [HNN.out]; omega)))))
        · have hd2 : decide ((n : Int) > 400) = false := by rw [decide_eq_false_iff_not]; omega
          by_cases hc3 : s.size < lenA L + 8 + n
          · have hd3 : decide (((lenA L : Nat) : Int) + 8 + n > s.size) = true := by rw [decide_eq_true_iff]; omega
            go_wp2_with fail
            go_ret2
            exact STOP.out (oneB_no (.inr (.inr (.inr (by rw [HNN.out, hdl]; omega)))))
          · have hd3 : decide (((lenA L : Nat) : Int) + 8 + n > s.size) = false := by rw [decide_eq_false_iff_not]; omega
            have hrec : (s.extract (lenA L + 7) (lenA L + 7 + n)).data.toList = recL (s.data.toList.drop (lenA L)) := by
              rw [ext_data]
              unfold recL
              rw [HNN.out, List.drop_drop, show lenA L + 7 + n - (lenA L + 7) = n by omega]
            have hsz : s.data.toList.length = s.size := rfl
            have hrl : (recL (s.data.toList.drop (lenA L))).length = n := by
              unfold recL
              rw [HNN.out, List.length_take, List.length_drop, List.length_drop]
              omega
            have hrr : s.extract (lenA L + 7) (lenA L + 7 + n) = ⟨(recL (s.data.toList.drop (lenA L))).toArray⟩ := by rw [← hrec]
            have hfd : (s.extract (lenA L) (lenA L + 8 + n)) = ⟨((s.data.toList.drop (lenA L)).take (n + 8)).toArray⟩ := by
              have h := ext_data s (lenA L) (lenA L + 8 + n)
              rw [show lenA L + 8 + n - lenA L = n + 8 by omega] at h
              rw [← h]
            have href := oneB_ref (d := s.data.toList.drop (lenA L)) (by omega) (by rw [HNN.out]; omega) (by rw [HNN.out]; omega) (by rw [HNN.out, hdl]; omega)
            rw [HNN.out] at href
            have REF := Lib.hid href
            have RR := Lib.hid hrr
            have FD := Lib.hid hfd
            have hM2 := fun h => M.out.snoc (l := L) h
            have M2 := Lib.hid hM2
            clear hrec hrr hfd href hM2 M hdl
            generalize recL (s.data.toList.drop (lenA L)) = r at hrl RR REF M2
            generalize ((s.data.toList.drop (lenA L)).take (n + 8)) = ff at FD REF
            have hfs : frameS ⟨r.toArray⟩ = ⟨(frameL r).toArray⟩ := by
              unfold frameS
              rw [if_pos (show goodL r from ⟨by omega, by omega⟩)]
            have hfe : frameE ⟨r.toArray⟩ = 0 := by
              unfold frameE
              rw [if_pos (show goodL r from ⟨by omega, by omega⟩)]
            have C1 := rframe_any ⟨r.toArray⟩ wr.drew (by rw [bsize]; omega)
            rw [hfs, hfe] at C1
            rw [← RR.out] at C1
            clear hfs hfe
            go_wp2_with (go_at_call 9; refine C1.mono ?_)
            rintro e w2 ⟨rfl, hF2⟩
            have O2 := Lib.hid (own_fr O.out (Fr.trans ((Fr.refl [] wr).drewN 1) hF2 (by simp)))
            have F2 := Lib.hid ((F.out.drewN 1).trans hF2 (by simp))
            clear C1 hF2
            have hO3 : (w2.alloc (.cells #[.string (s.extract (lenA L + 7) (lenA L + 7 + n))] 9)).ownsRow w.heap.size 9 1 (.slice a L.length c) L.length (L.map str) := own_fr O2.out (Fr.alloc (Fr.refl [] w2) _)
            have hnew : ∀ j u, [str r][j]? = some u → (w2.alloc (.cells #[.string (s.extract (lenA L + 7) (lenA L + 7 + n))] 9)).cell? ((⟨w2.heap.size, 0, none⟩ : Addr).add j) = some u := by
              intro j u hj
              rw [Addr_add, Nat.zero_add, RR.out]
              have := (Row.new w2 [str r] 9).cell j
              exact this.trans hj
            have O3 := Lib.hid hO3
            have NW := Lib.hid hnew
            have hwsz := F2.out.size
            clear hO3 hnew
            go_wp2_with (at_builtin; refine wpList_append_own _ rfl _ _ 26 rfl w.heap.size 9 i0 (.string ⟨#[]⟩) 1 16 Try.underlying26 HI.out HZ0.out HZ1.out HZ2.out rfl (by decide) _ _ _ rfl O3.out ⟨w2.heap.size, 0, none⟩ 1 1 [str r] rfl rfl NW.out (by simp [str, Value.oneCell']) (by unfold maxLen; omega) (by omega) (by simp; omega) ?_)
            · rename_i hq
              go_ret2
              have hf : oneB (s.data.toList.drop (lenA L)) = false := by
                rw [REF.out]
                rw [FD.out] at hq
                have : (⟨ff.toArray⟩ : ByteArray).toList = ff := by rw [ByteArray.toList_eq]
                rw [this] at hq
                simpa using hq
              have hlast := LAST.out hf
              refine ⟨_, by rw [hlast]; rfl, ?_, F2.out⟩
              rw [hlast]
              exact O2.out
            · rename_i hq K1 hK
              intro v' w3 hown' hgrow _
              have hM3 := M2.out (by
                rw [REF.out]
                rw [FD.out] at hq
                have : (⟨ff.toArray⟩ : ByteArray).toList = ff := by rw [ByteArray.toList_eq]
                rw [this] at hq
                simpa using hq)
              have hle2 := hM3.le
              rw [lenA_snoc] at hle2
              have M3 := Lib.hid hM3
              have hF4 : Fr [] w w3 := by
                have h1 := (F2.out.alloc (.cells #[.string (s.extract (lenA L + 7) (lenA L + 7 + n))] 9))
                refine h1.trans (Fr.of_grown hgrow ((Value.ownBlock (.slice a L.length c)).toList) (fun k hk => .inl (by simp [hk]))) ?_
                intro k hk
                simp only [Option.mem_toList] at hk
                exact .inr (O3.out.lt k hk).1
              have F4 := Lib.hid hF4
              have hown2 : w3.ownsRow w.heap.size 9 1 v' (L ++ [r]).length ((L ++ [r]).map str) := by
                rw [List.length_append, List.map_append]
                exact hown'
              have O4 := Lib.hid hown2
              clear hown' hgrow hF4 hown2 hM3 hq
              go_wp2_with fail
              go_roundg (s.size - lenA (L ++ [r]))
              case measure => rw [lenA_snoc]; omega
              case rel => exact ⟨L ++ [r], rfl, M3.out, by rw [lenA_snoc, hrl, show lenA L + (n + 8) = lenA L + (8 + n) by omega]; rfl, O4.out, F4.out⟩
    · have hd : decide (((lenA L : Nat) : Int) + 8 < s.size) = false := by rw [decide_eq_false_iff_not]; omega
      have hlast := M.out.last (oneB_no (.inl (by omega)))
      clear hdl
      go_wp2_with fail
      go_ret2
      refine ⟨_, by rw [hlast]; rfl, ?_, F.out⟩
      rw [hlast]
      exact O.out
end Go.Proofs.Ytghahdddjpofdaa
