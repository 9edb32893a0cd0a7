/- The store's Bytes and Copy. -/
import Derived.Test.YtgknnfajilfpeaaSto2
import Derived.Test.YtgknnfajilfpeaaBld
set_option linter.unusedVariables false
set_option linter.unusedSimpArgs false
namespace Go.Proofs.Ytgknnfajilfpeaa
open Go.RowKit

theorem IsB_below {T e B b : Nat} {bs : List Value} {w : World} (h : Lib.BuilderAt T e B b (.pointer (some ⟨b, 0, none⟩)) bs w) : Lib.IsBuilder T e B b bs w := .inr h
theorem IsB_grown {T e B b : Nat} {bs : List Value} {w w' : World} (h : Lib.IsBuilder T e B b bs w) (f : Fr [] w w') : Lib.IsBuilder T e B b bs w' := by
  have key : ∀ p, Lib.BuilderAt T e B b p bs w → Lib.BuilderAt T e B b p bs w' := by
    intro p hp
    have hlt := hp.lt
    obtain ⟨h1, v, h2, h3, h4⟩ := hp
    exact ⟨h1, v, (f.block b hlt (by simp)).trans h2, h3.kept (row := none) ⟨f.os, f.tape, f.output, f.size, fun k hk _ => f.block k hk (by simp)⟩ (by cases v.ownBlock <;> simp), h4⟩
  rcases h with h | h
  · exact .inl (key _ h)
  · exact .inr (key _ h)
theorem take_seg (s : List UInt8) (j : Nat) : s.take (j * 32) ++ (s.drop (j * 32)).take 32 = s.take ((j + 1) * 32) := by
  rw [Nat.succ_mul, List.take_add]

set_option maxHeartbeats 400000 in
theorem bytes_any (b l cap : Nat) (s : StoS) (w : World) (h : StoAt w b l cap s) (hpos : 1 ≤ s.n) :
    Calls Try.prog 22 #[.pointer (some ⟨b, 0, none⟩)] w fun e w' => e = .returned (.string ⟨s.bs.toArray⟩) ∧ Below w.heap.size w w' := by
  have c0 := h.head.cell 0
  have hbl := h.head.lt
  simp at c0
  obtain ⟨C, hrow⟩ := h.rest
  have hll := hrow.lt
  have hlen := h.len
  have hfew := h.few
  have H := Lib.hid h
  have HL := Lib.hid hlen
  clear h hlen
  go_enter Try.func22, Try.ntmps22
  go_wp2
  go_loopg [11] s.n (fun k i wr => ∃ j : Nat, k = s.n - j ∧ j ≤ s.n ∧ i = .int .i64 j ∧ Lib.IsBuilder 58 5 w.heap.size w.heap.size (bcells (s.bs.take (j * 32))) wr ∧ Below w.heap.size w wr)
  case atStart =>
    exact ⟨0, rfl, by omega, rfl, by simpa [bcells] using Lib.fresh_isBuilder 58 5 w, (Below.refl _ _).alloc (Nat.le_refl _) _⟩
  case round =>
    obtain ⟨j, rfl, hj, rfl, hib, hbel⟩ := hrel
    have HIB := Lib.hid hib
    have HBEL := Lib.hid hbel
    clear hib hbel
    by_cases hlt : j < s.n
    · have hd : decide ((j : Int) < s.n) = true := by rw [decide_eq_true_iff]; omega
      have hrw : Row wr l (bcells s.bs ++ C) 55 := hrow.below HBEL.out hll
      have hlen := HL.out
      have hcs : ((s.bs.drop (j * 32)).take 32).length = 32 := by simp; omega
      have hsub : ∀ i v, (bcells ((s.bs.drop (j * 32)).take 32))[i]? = some v → wr.cell? ⟨l, j * 32 + i, none⟩ = some v := by
        intro i v hv
        refine hrw.seg (j * 32) 32 i v ?_
        rw [← hv, List.drop_append_of_le_length (by rw [bcells_length]; omega), List.take_append_of_le_length (by simp [bcells_length]; omega)]
        simp [bcells]
      have htk := take_seg s.bs j
      generalize (s.bs.drop (j * 32)).take 32 = X at hcs hsub htk
      have HBL := Lib.hid ((bcells_length X).trans hcs)
      have HSUB := Lib.hid hsub
      have HTK := Lib.hid htk
      have HCS := Lib.hid hcs
      clear hsub htk hlen hcs hrw
      go_wp2_with (first | ((with_reducible refine wpList_load_at rfl 55 (.tmp 13) rfl agg55 32 size55 l (j * 32) (bcells X) HBL.out HSUB.out ?_ ?_); exact rfl) | ((with_reducible refine wpList_var_agg rfl rfl 55 (.tmp 5) (.tmp 14) rfl rfl 32 zero55 (bcells X) HBL.out (bcells_one X) ?_ ?_ ?_); exact rfl; exact rfl))
      intro w2 hr2 hs2 hf2
      have hib2 := IsB_grown HIB.out hf2
      have hbw : w.heap.size < wr.heap.size := by rcases HIB.out with h | h <;> exact h.lt
      have hsz := HBEL.out.size
      have hC := bwrite_any w.heap.size w.heap.size _ ⟨wr.heap.size, 0, none⟩ 32 32 (bcells X) w2 hib2 HBL.out (fun i u hu => by rw [Addr_add, hr2.cell, Nat.zero_add]; exact hu) (by simp; omega) (bcells_one X) (by rw [bcells_length, List.length_take]; have := HL.out; omega) (by omega)
      have HF2 := Lib.hid hf2
      clear hib2 hs2 hf2 hr2
      go_wp2_with (go_at_call 26; refine hC.mono ?_)
      rintro e w3 ⟨rfl, hb3, hbel3⟩
      have HB3 := Lib.hid hb3
      have HBEL3 := Lib.hid hbel3
      clear hb3 hbel3 hC
      go_wp2
      go_roundg (s.n - (j + 1))
      case measure => omega
      case rel =>
        refine ⟨j + 1, rfl, by omega, rfl, ?_, ?_⟩
        · have := IsB_below HB3.out
          rw [← HTK.out]
          simpa [bcells] using this
        · exact (HBEL.out.trans (HF2.out.below (by simp) hsz)).trans HBEL3.out
    · have hd : decide ((j : Int) < s.n) = false := by rw [decide_eq_false_iff_not]; omega
      obtain rfl : j = s.n := by omega
      have hlen := HL.out
      have hfull : s.bs.take (s.n * 32) = s.bs := List.take_of_length_le (by omega)
      have hib := HIB.out
      rw [hfull] at hib
      have hne : s.bs ≠ [] := fun h => by rw [h] at hlen; simp at hlen; omega
      have hC := bstring_any w.heap.size w.heap.size s.bs wr hib hne
      clear hib hfull hlen hne
      go_wp2_with (go_at_call 27; refine hC.mono ?_)
      rintro e w3 ⟨rfl, hbel3⟩
      go_wp2
      go_ret
      exact ⟨rfl, HBEL.out.trans hbel3⟩

def Cloned (l cap n : Nat) (s : List UInt8) (w : World) (e : Ending) (w' : World) : Prop := ∃ g cap' C, e = .returned (.slice (some ⟨g, 0, none⟩) n cap') ∧ n ≤ cap' ∧ w.heap.size ≤ g ∧ Row w' g (bcells s ++ C) 55 ∧ Fr [] w w'
theorem clone_any (l cap n : Nat) (bs : List UInt8) (C : List Value) (w : World) (hr : Row w l (bcells bs ++ C) 55) (hl : bs.length = 32 * n) (h0 : 1 ≤ n) (h1 : n ≤ 256) :
    Calls Try.prog 28 #[.slice (some ⟨l, 0, none⟩) n cap] w (Cloned l cap n bs w) := by
  have hnil := Lib.run_eql_slice_nil (P := Try.prog) w 49 55 (some ⟨l, 0, none⟩) n cap 0 0 Try.underlying49
  have HL := Lib.hid hl
  have HR := Lib.hid hr
  clear hl hr
  go_enter Try.func28, Try.ntmps28
  obtain ⟨i0, hi, hz0, hz1, hz2⟩ := info_parts info55
  have HI := Lib.hid hi
  have HZ0 := Lib.hid hz0
  have HZ1 := Lib.hid hz1
  have HZ2 := Lib.hid hz2
  clear hi hz0 hz1 hz2
  have hown : (w.alloc (.cells #[] 55)).ownsRow w.heap.size 55 32 (.slice (some ⟨w.heap.size, 0, none⟩) 0 0) 0 [] :=
    ⟨by simp, .inr ⟨w.heap.size, 0, #[], rfl, Nat.le_refl _, heap_alloc_new _ _, Nat.le_refl _, by unfold maxLen; omega, by simp, by simp⟩⟩
  have HO := Lib.hid hown
  have hnews : ∀ j u, (bcells bs)[j]? = some u → (w.alloc (.cells #[] 55)).cell? ((⟨l, 0, none⟩ : Addr).add j) = some u := by
    intro j u hu
    rw [Addr_add, (HR.out.alloc _).cell, Nat.zero_add, List.getElem?_append_left ((List.getElem?_eq_some_iff.1 hu).1)]
    exact hu
  have HN := Lib.hid hnews
  clear hown hnews
  go_wp2_with (at_builtin; refine wpList_append_own _ rfl _ _ 49 rfl w.heap.size 55 i0 (.agg (Array.replicate 32 (.int .u8 0))) 32 32 Try.underlying49 HI.out HZ0.out HZ1.out HZ2.out rfl (by decide) _ _ _ rfl HO.out ⟨l, 0, none⟩ n cap (bcells bs) rfl (by rw [bcells_length, HL.out]; omega) HN.out (bcells_one bs) ?c3 ?c4 ?c5 ?_)
  case c3 => unfold maxLen; omega
  case c4 => omega
  case c5 => simp
  intro v' w2 hown' hgrow hnn
  obtain ⟨g, cap', cur, rfl, hbg, hg, hnc, hcm, hcs, htake⟩ : ∃ g cap cur, v' = .slice (some ⟨g, 0, none⟩) n cap ∧ w.heap.size ≤ g ∧ w2.heap[g]? = some (.cells cur 55 (0, 0)) ∧ n ≤ cap ∧ cap ≤ maxLen ∧ cur.size = cap * 32 ∧ cur.toList.take (n * 32) = bcells bs := by
    rcases hown'.2 with ⟨_, hz⟩ | ⟨g, cap, cur, hv, r⟩
    · omega
    · exact ⟨g, cap, cur, hv, r⟩
  have HG := Lib.hid hgrow
  have HC := Lib.hid hg
  have HT := Lib.hid htake
  clear hown' hgrow hnn hg htake hcm hcs
  go_wp2
  go_ret
  refine ⟨g, cap', cur.toList.drop (n * 32), rfl, hnc, hbg, ?_, ?_⟩
  · show w2.heap[g]? = _
    have e : bcells bs ++ cur.toList.drop (n * 32) = cur.toList := by
      rw [← HT.out, List.take_append_drop]
    rw [HC.out, e]
  · exact ((Fr.refl [] w).alloc _).trans (T := [w.heap.size]) (Fr.of_grown HG.out _ (fun k hk => by simp [Value.ownBlock] at hk; simp [hk])) (by simp)

theorem agg51 (w : World) : (isAgg 51).run Try.prog w = .ok true w := by kernel_rfl
theorem size51 : (Try.prog.info? 51).map (·.size) = some 5 := by kernel_rfl
theorem zero51 : (Try.prog.info? 51).map (fun i => (i.size, i.zero.map (·.cells.size))) = some (5, some 5) := by kernel_rfl
def Copied (s : StoS) (w : World) (e : Ending) (w' : World) : Prop := ∃ b l cap, w.heap.size ≤ b ∧ w.heap.size ≤ l ∧ e = .returned (.pointer (some ⟨b, 0, none⟩)) ∧ StoAt w' b l cap s ∧ Fr [] w w'
theorem copy_any (b l cap : Nat) (s : StoS) (w : World) (h : StoAt w b l cap s) (hpos : 1 ≤ s.n) :
    Calls Try.prog 24 #[.pointer (some ⟨b, 0, none⟩)] w (Copied s w) := by
  have c0 := h.head.cell 0
  have hbl := h.head.lt
  simp at c0
  obtain ⟨C, hrow⟩ := h.rest
  have hsub : ∀ j v, ([.slice (some ⟨l, 0, none⟩) s.n cap, .int .i64 s.fuse, .int .i64 s.pre, .bool s.down, .int .i64 s.writes] : List Value)[j]? = some v → w.cell? ⟨b, 0 + j, none⟩ = some v := by
    intro j v hv
    rw [h.head.cell, Nat.zero_add]
    exact hv
  have H := Lib.hid h
  have HSUB := Lib.hid hsub
  clear h hsub
  go_enter Try.func24, Try.ntmps24
  go_wp2_with (first | ((with_reducible refine wpList_load_at rfl 51 (.tmp 5) rfl agg51 5 size51 b 0 _ rfl HSUB.out ?_ ?_); exact rfl) | ((with_reducible refine wpList_var_agg rfl rfl 51 (.tmp 3) (.tmp 6) rfl rfl 5 zero51 [.slice (some ⟨l, 0, none⟩) s.n cap, .int .i64 s.fuse, .int .i64 s.pre, .bool s.down, .int .i64 s.writes] rfl ?_ ?_ ?_ ?_); (intro u hu; simp at hu; rcases hu with rfl | rfl | rfl | rfl | rfl <;> rfl); exact rfl; exact rfl))
  intro w1 hr1 hs1 hf1
  have c1 := hr1.cell 0
  simp at c1
  have c0' := (H.out.head.fr hf1 (by simp)).cell 0
  simp at c0'
  have hC := clone_any l cap s.n s.bs C w1 (hrow.fr hf1 (by simp)) H.out.len hpos H.out.few
  have HR1 := Lib.hid hr1
  have HS1 := Lib.hid hs1
  have HF1 := Lib.hid hf1
  clear hr1 hs1 hf1
  go_wp2_with (go_at_call 28; refine hC.mono ?_)
  rintro e w2 ⟨g, cap', C', rfl, hcap, hg, hr2, hf2⟩
  have hr3 := HR1.out.fr hf2 (by simp)
  have f3 := hr3.frozen 0
  have c3 := hr3.cell 0
  simp at c3
  have HR2 := Lib.hid hr2
  have HF2 := Lib.hid hf2
  have HR3 := Lib.hid hr3
  clear hr2 hf2 hr3
  go_wp2
  go_ret
  have hs := HS1.out
  have hng : g ≠ w.heap.size := by omega
  refine ⟨w.heap.size, g, cap', Nat.le_refl _, by omega, rfl, ⟨HR3.out.setCell 0 _, ⟨C', HR2.out.setCell_other _ _ hng⟩, H.out.len, hcap, Ne.symm hng, H.out.few, H.out.fuse0, H.out.fuse1, H.out.pre1⟩, ?_⟩
  exact (HF1.out.trans (T := []) HF2.out (by simp)).setCell (by simp) _
end Go.Proofs.Ytgknnfajilfpeaa
