/- What waits long comes at last: the law. -/
import Derived.Test.YtpjmmhpkiepbmaaHpA
import Derived.Test.YtpjmmhpkiepbmaaHpOpen
import Derived.StillTailTactics
set_option linter.unusedVariables false
set_option linter.unusedSimpArgs false
namespace Go.Proofs.Ytpjmmhpkiepbmaa
open Go.RowKit
/-- Item 0 is there, and none is ahead of it; numbers up to n. -/
structure AgesI (s : Int) (x0 : ItD) (n : Nat) (L : List ItD) : Prop where
  len : L.length = n
  mem : x0 ∈ L
  ids : ∀ z ∈ L, 0 ≤ z.id ∧ z.id < n
  na : ∀ z ∈ L, aheadB s z x0 = false
theorem AgesI.first {s : Int} {x0 : ItD} {n : Nat} {L : List ItD} (h : AgesI s x0 n L) (ho : HeapO s L) : (topX L).id = x0.id ∧ nonB L = true := by
  have h0 : 0 < L.length := List.length_pos_of_mem h.mem
  refine ⟨?_, decide_eq_true h0⟩
  obtain ⟨j, hj, hx⟩ := List.getElem_of_mem h.mem
  have h1 := heap_first ho j hj
  have e : gI L j = x0 := by rw [← hx]; exact getD_lt L j hj
  rw [e] at h1
  have h2 := h.na (gI L 0) (getD_mem L 0 h0)
  exact (ahead_both h2 h1)
theorem AgesI.put {s : Int} {x0 x : ItD} {n : Nat} {L : List ItD} (h : AgesI s x0 n L) (hx : x.ok) (hid : x.id = n) (hn : n < 1000) (ha : aheadB s x x0 = false) : putE L x = 0 ∧ AgesI s x0 (n + 1) (putL s L x) := by
  have he : putE L x = 0 := putE_zero.2 ⟨hx, hasI_false.2 (fun z hz hzi => by have := (h.ids z hz).2; omega), by rw [h.len]; omega⟩
  have hp := putL_perm (s := s) he
  refine ⟨he, by rw [hp.length_eq, List.length_cons, h.len], hp.mem_iff.2 (List.mem_cons_of_mem _ h.mem), fun z hz => ?_, fun z hz => ?_⟩
  · rcases List.mem_cons.1 (hp.mem_iff.1 hz) with rfl | hz
    · omega
    · have := h.ids z hz; omega
  · rcases List.mem_cons.1 (hp.mem_iff.1 hz) with rfl | hz
    · exact ha
    · exact h.na z hz
theorem ages_start {s b : Int} (hs : stepOk s) (hb0 : 0 ≤ b) (hb : b ≤ 9) : putE [] ⟨0, b, 7⟩ = 0 ∧ AgesI s ⟨0, b, 7⟩ 1 (putL s [] ⟨0, b, 7⟩) := by
  have he : putE [] ⟨0, b, 7⟩ = 0 := putE_zero.2 ⟨⟨hb0, hb, by show (0 : Int) ≤ 7; omega, by show (7 : Int) ≤ _; omega⟩, rfl, by simp⟩
  have hp := putL_perm (s := s) he
  refine ⟨he, hp.length_eq, hp.mem_iff.2 (by simp), fun z hz => ?_, fun z hz => ?_⟩
  · have := List.mem_singleton.1 (hp.mem_iff.1 hz)
    subst this
    exact ⟨Int.le_refl _, by show (0 : Int) < 1; omega⟩
  · have := List.mem_singleton.1 (hp.mem_iff.1 hz)
    subst this
    exact ahead_irr s _
theorem ages_ahead {s b c d i : Int} (hs : stepOk s) (hb : b ≤ 9) (hc : c ≤ 9) (hd : 0 ≤ d) (hi : 0 < i) : aheadB s ⟨i, c, 7 + (9 - b) * s + d⟩ ⟨0, b, 7⟩ = false := by
  have h1 : c * s ≤ 9 * s := Int.mul_le_mul_of_nonneg_right hc (by have := hs.1; omega)
  have e1 : weight s ⟨i, c, 7 + (9 - b) * s + d⟩ = c * s - (7 + (9 - b) * s + d) := rfl
  have e2 : weight s ⟨0, b, 7⟩ = b * s - 7 := rfl
  unfold aheadB
  rw [e1, e2, Int.sub_mul]
  generalize c * s = p at *
  generalize b * s = q at *
  generalize 9 * s = r at *
  simp
  omega
set_option maxRecDepth 100000 in
set_option maxHeartbeats 4000000 in
theorem heapAges_walk (a0 a1 : Int) (a2 : Option Addr) (len2 cap2 : Nat) (L2 : List Nat) (W : World) (hw0 : (Lit.int .u8 a0).wf = true) (hw1 : (Lit.int .u8 a1).wf = true) (h2 : BysIn W a2 len2 L2) :
    Calls Try.prog 5 #[.int .u8 a0, .int .u8 a1, .slice a2 len2 cap2] W fun e w' => e = .returned (.bool true) ∧ Below W.heap.size W w' := by
  obtain ⟨E, hE, hE0, hEg⟩ := intE_ex
  have b0 := wf_u8 hw0
  have b1 := wf_u8 hw1
  clear hw0 hw1
  obtain ⟨s, rfl⟩ := Int.eq_ofNat_of_zero_le b0.1
  obtain ⟨b, rfl⟩ := Int.eq_ofNat_of_zero_le b1.1
  have hs255 : s ≤ 255 := by omega
  have hb255 : b ≤ 255 := by omega
  clear b0 b1
  have H2 := Lib.hid h2
  clear h2
  go_enter Try.func5, Try.ntmps5
  go_wp2_with fail
  refine (awake_any _).mono ?_
  rintro e w1 ⟨rfl, f1⟩
  have F1 := Lib.hid f1
  clear f1
  go_wp2_with fail
  refine (new_c E (s + 1) _ (by unfold stepOk; omega)).mono ?_
  rintro e w2 ⟨rfl, h2, f2, _⟩
  have hbase : W.heap.size ≤ w1.heap.size := F1.out.size
  have HH2 := Lib.hid h2
  have F2 := Lib.hid (F1.out.trans f2 (fun y hy => .inl hy))
  clear h2 f2
  go_wp2_with fail
  obtain ⟨c, hc, hc0, hc9⟩ : ∃ c : Int, (b : Int) % 10 = c ∧ 0 ≤ c ∧ c ≤ 9 := ⟨_, rfl, by omega, by omega⟩
  rw [hc]
  clear hc
  obtain ⟨q, hq⟩ : ∃ q : Int, (9 - c) * ((s : Int) + 1) = q := ⟨_, rfl⟩
  have hso : stepOk ((s : Int) + 1) := by unfold stepOk; omega
  have hq0 : 0 ≤ q ∧ q ≤ 2304 := by
    rw [← hq]
    refine ⟨Int.mul_nonneg (by omega) (by omega), ?_⟩
    have h1 : (9 - c) * ((s : Int) + 1) ≤ 9 * ((s : Int) + 1) := Int.mul_le_mul_of_nonneg_right (by omega) (by omega)
    omega
  have W1 : IntKind.i64.wrap ((9 - c) * ((s : Int) + 1)) = q := by rw [hq]; exact wrap_in (by omega)
  have HQ := Lib.hid hq
  have HSO := Lib.hid hso
  clear hq hso
  obtain ⟨e0, i0⟩ := ages_start (s := (s : Int) + 1) HSO.out hc0 hc9
  have C := put_c hE hEg HH2.out ⟨0, c, 7⟩ (show inI 0 by unfold inI; decide) (by omega)
  rw [e0] at C
  simp only [ItD.val] at C
  refine C.mono ?_
  rintro e w3 ⟨rfl, N⟩
  obtain ⟨n3, v3, hn3, h3, f3⟩ := HSN.next HH2.out N F2.out (by omega) (by omega) (by omega)
  have H3 := Lib.hid h3
  have F3 := Lib.hid f3
  have I0 := Lib.hid i0
  clear C N h3 f3 e0 i0
  go_wp2_with fail
  go_loopg [12] 100 (fun k i wr => ∃ (j n : Nat) (L : List ItD) (v : Value), k = 100 - j ∧ j ≤ 100 ∧ j ≤ len2 ∧ i = .int .i64 j ∧ n ≤ 2002 * (j + 1) ∧ HS E wr (w1.heap.size + 1) w1.heap.size (w1.heap.size + 2) n (s + 1) L v ∧ AgesI (s + 1) ⟨0, c, 7⟩ (j + 1) L ∧ Fr [] W wr)
  case atStart => exact ⟨0, n3, _, v3, rfl, by omega, by omega, rfl, by omega, H3.out, I0.out, F3.out⟩
  case round =>
    obtain ⟨j, n, L, v, rfl, hj, hjl, rfl, hn, hh, hi, hf⟩ := hrel
    have HH := Lib.hid hh
    have HI := Lib.hid hi
    have HF := Lib.hid hf
    clear hh hi hf
    by_cases hlt : j < len2 ∧ j < 100
    · have d1 : decide (j < len2) = true := decide_eq_true hlt.1
      have d2 : decide ((j : Int) < 100) = true := decide_eq_true (by omega)
      obtain ⟨bb, o, rfl, hbb, hcell⟩ := H2.out.rows.at_ (by omega)
      have hc1 := cell_fr (hcell j hlt.1 0 _ rfl) HF.out
      have hsm := H2.out.small j
      rw [Nat.mul_one, Nat.add_zero] at hc1
      clear hcell
      generalize L2.getD j default = d at hc1 hsm
      obtain ⟨r, hr, hr0, hr9⟩ : ∃ r : Int, ((d : Int)).tmod 10 = r ∧ 0 ≤ r ∧ r ≤ 9 := ⟨_, rfl, by rw [Int.tmod_eq_emod_of_nonneg (by omega)]; omega, by rw [Int.tmod_eq_emod_of_nonneg (by omega)]; omega⟩
      have x1 : IntKind.i64.wrap ((j : Int) + 1) = (j : Int) + 1 := wrap_in (by omega)
      have x2 : IntKind.i64.wrap r = r := wrap_in (by omega)
      have x3 : IntKind.i64.wrap (d : Int) = (d : Int) := wrap_in (by omega)
      have x4 : IntKind.i64.wrap (7 + q + (d : Int)) = 7 + q + (d : Int) := wrap_in (by omega)
      have ha := ages_ahead (s := (s : Int) + 1) (b := c) (c := r) (d := (d : Int)) (i := (j : Int) + 1) HSO.out hc9 hr9 (by omega) (by omega)
      rw [HQ.out] at ha
      obtain ⟨e1, i1⟩ := HI.out.put (x := ⟨(j : Int) + 1, r, 7 + q + d⟩) ⟨hr0, hr9, by show (0 : Int) ≤ 7 + q + d; omega, by show 7 + q + (d : Int) ≤ _; omega⟩ (by show (j : Int) + 1 = ((j + 1 : Nat) : Int); omega) (by omega) ha
      have C := put_c hE hEg (HH.out.fr (((Fr.refl [] wr).drewN 1))) ⟨(j : Int) + 1, r, 7 + q + d⟩ (show inI ((j : Int) + 1) by unfold inI; omega) (by omega)
      rw [e1] at C
      simp only [ItD.val] at C
      have D := Lib.hid C
      have I1 := Lib.hid i1
      clear C i1 ha e1
      go_wp2_with fail
      refine wp_region_still_tail 17 (by kernel_rfl) (by kernel_rfl) ?_
      simp only [List.take_succ_cons, List.take_zero, List.drop_succ_cons, List.drop_zero]
      repeat still_step
      refine wpStill_nil ?_
      clear hr x1 x2 x3 x4
      go_wp2_with fail
      refine D.out.mono ?_
      rintro e w5 ⟨rfl, N⟩
      obtain ⟨n5, v5, hn5, h5, f5⟩ := HSN.next (HH.out.fr ((Fr.refl [] wr).drewN 1)) N (HF.out.drewN 1) (by omega) (by omega) (by omega)
      have H5 := Lib.hid h5
      have F5 := Lib.hid f5
      clear N h5 f5 D
      go_wp2_with fail
      go_roundg (100 - (j + 1))
      case measure => omega
      case rel => exact ⟨j + 1, n5, _, v5, rfl, by omega, by omega, rfl, by omega, H5.out, I1.out, F5.out⟩
    · have hfi := HI.out.first HH.out.ord
      have hex : decide (j < len2) = false ∨ (decide (j < len2) = true ∧ decide ((j : Int) < 100) = false) := by
        by_cases h : j < len2
        · exact .inr ⟨decide_eq_true h, decide_eq_false (by omega)⟩
        · exact .inl (decide_eq_false h)
      have C := peek_c HH.out
      rw [hfi.2] at C
      have he : (topX L).id = 0 := hfi.1
      generalize topX L = x at C he
      obtain ⟨xi, xb, xs⟩ := x
      have he' : xi = 0 := he
      subst he'
      simp only [ItD.val] at C
      have D := Lib.hid C
      clear C he hfi hlt
      rcases hex with d1 | ⟨d1, d2⟩
      all_goals
        go_wp2_with fail
        refine D.out.mono ?_
        rintro e w5 ⟨rfl, f5⟩
        have F5 := Lib.hid (HF.out.trans f5 (fun y hy => .inl hy))
        have X := Lib.hid ((F5.out.alloc (.cells #[.int .i64 0, .int .i64 xb, .int .i64 xs] 32)))
        clear f5
        go_wp2_with fail
        go_ret
        exact ⟨rfl, X.out.nil_below⟩
end Go.Proofs.Ytpjmmhpkiepbmaa
