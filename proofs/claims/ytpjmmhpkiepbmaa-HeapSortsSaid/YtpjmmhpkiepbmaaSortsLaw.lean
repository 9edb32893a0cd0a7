/- All that is put comes once, the first one first: the law. -/
import Derived.Test.YtpjmmhpkiepbmaaHpA
import Derived.Test.YtpjmmhpkiepbmaaHpOpen
import Derived.Test.YtpjmmhpkiepbmaaHpP
import Derived.StillTailTactics
import Derived.Deep.RegionHeldLaw
set_option linter.unusedVariables false
set_option linter.unusedSimpArgs false
namespace Go.Proofs.Ytpjmmhpkiepbmaa
open Go.RowKit
theorem wf_u16 {m : Int} (h : (Lit.int .u16 m).wf = true) : 0 ≤ m ∧ m ≤ 65535 := by
  simp only [Lit.wf, IntKind.min, IntKind.max, IntKind.bits, IntKind.signed] at h
  simpa using h
theorem wf_u32 {m : Int} (h : (Lit.int .u32 m).wf = true) : 0 ≤ m ∧ m ≤ 4294967295 := by
  simp only [Lit.wf, IntKind.min, IntKind.max, IntKind.bits, IntKind.signed] at h
  simpa using h
/-- The heap and the map of the numbers that are in it. -/
structure SortS (E : ElemOf Try.prog 3 Int) (EB : ElemOf Try.prog 4 Bool) (W w : World) (b m base pm n mn : Nat) (s : Int) (L : List ItD) (v : Value) : Prop where
  hp : HS E w b m base n s L v
  mp : MapC Try.prog 3 4 EB w pm mn L.length (setM L)
  ne : ∀ y, v.ownBlock = some y → y ≠ pm
  fr : Fr [] W w
/-- Behind a change of the heap: the map stays. -/
theorem SortS.step {E : ElemOf Try.prog 3 Int} {EB : ElemOf Try.prog 4 Bool} {W w w' : World} {b m base pm n mn k : Nat} {s : Int} {L L' : List ItD} {v : Value} (h : SortS E EB W w b m base pm n mn s L v) (N : HSN E b m base k s L' v w w') (hb : b ≠ pm) (hm : m ≠ pm) (wb : W.heap.size ≤ b) (wm : W.heap.size ≤ m) (wl : W.heap.size ≤ base) :
    ∃ n' v', n' ≤ k ∧ HS E w' b m base n' s L' v' ∧ MapC Try.prog 3 4 EB w' pm mn L.length (setM L) ∧ (∀ y, v'.ownBlock = some y → y ≠ pm) ∧ Fr [] W w' ∧ Fr (b :: m :: v.ownBlock.toList) w w' := by
  obtain ⟨n', v', h1, h2, h3, h4⟩ := N
  refine ⟨n', v', h1, h2, h.mp.fr h3 ?_, ?_, h.fr.trans h3 (fun y hy => ?_), h3⟩
  · intro hy
    simp only [List.mem_cons, Option.mem_toList] at hy
    rcases hy with hy | hy | hy
    · exact hb hy.symm
    · exact hm hy.symm
    · exact h.ne _ hy rfl
  · intro y hy hyp
    have hlt := h.mp.lt
    rcases h4 with h5 | ⟨q, h5, h6⟩
    · exact h.ne y (h5 ▸ hy) hyp
    · rw [h5] at hy; cases hy; omega
  · simp only [List.mem_cons, Option.mem_toList] at hy
    rcases hy with rfl | rfl | hy
    · exact .inr wb
    · exact .inr wm
    · exact .inr (Nat.le_trans wl (h.hp.at_.row.lt y hy).1)
theorem SortS.fr2 {E : ElemOf Try.prog 3 Int} {EB : ElemOf Try.prog 4 Bool} {W w w' : World} {b m base pm n mn : Nat} {s : Int} {L : List ItD} {v : Value} (h : SortS E EB W w b m base pm n mn s L v) (f : Fr [] w w') : SortS E EB W w' b m base pm n mn s L v :=
  ⟨h.hp.fr f, h.mp.fr f (by simp), h.ne, h.fr.trans f (fun y hy => .inl hy)⟩
set_option maxRecDepth 100000 in
set_option maxHeartbeats 4000000 in
theorem heapSorts_walk (a0 : Int) (a1 : Option Addr) (len1 cap1 : Nat) (L1 : List ItD) (a2 : Int) (W : World) (hw0 : (Lit.int .u16 a0).wf = true) (h1 : ItsIn W a1 len1 L1) (hw2 : (Lit.int .u32 a2).wf = true) :
    Calls Try.prog 4 #[.int .u16 a0, .slice a1 len1 cap1, .int .u32 a2] W fun e w' => e = .returned (.bool true) ∧ Below W.heap.size W w' := by
  obtain ⟨E, hE, hE0, hEg⟩ := intE_ex
  obtain ⟨EB, hB, hB0, hBg⟩ := boolE_ex
  have b0 := wf_u16 hw0
  have b2 := wf_u32 hw2
  clear hw0 hw2
  obtain ⟨s, rfl⟩ := Int.eq_ofNat_of_zero_le b0.1
  obtain ⟨now, rfl⟩ := Int.eq_ofNat_of_zero_le b2.1
  have hs255 : s ≤ 65535 := by omega
  have hn32 : now ≤ 4294967295 := by omega
  clear b0 b2
  have H1 := Lib.hid h1
  clear h1
  go_enter Try.func4, Try.ntmps4
  go_wp2_with fail
  refine (awake_any _).mono ?_
  rintro e w1 ⟨rfl, f1⟩
  have F1 := Lib.hid f1
  clear f1
  go_wp2_with fail
  refine (new_c E (s + 1) _ (by unfold stepOk; omega)).mono ?_
  rintro e w2 ⟨rfl, h2, f2, hs2⟩
  have hbase : W.heap.size ≤ w1.heap.size := F1.out.size
  have hps : w1.heap.size + 2 ≤ w2.heap.size := by omega
  have HH2 := Lib.hid (h2.fr ((Fr.refl [] w2).alloc (.map #[] 0)))
  have F2 := Lib.hid ((F1.out.trans f2 (fun y hy => .inl hy)).alloc (.map #[] 0))
  have M2 := Lib.hid (MapC.made Try.prog 3 4 EB w2)
  have hmk : (Instr.makeMap 56 none).run Try.prog w2 = .ok (.map (some w2.heap.size)) (w2.alloc (.map #[] 0)) := rfl
  have hmk' : ∀ w, (Instr.makeMap 56 none).run Try.prog w = .ok (.map (some w.heap.size)) (w.alloc (.map #[] 0)) := fun w => rfl
  clear h2 f2 hs2 hmk
  go_wp2_with fail
  generalize hpm : w2.heap.size = pm at M2 hps ⊢
  have HPM := Lib.hid hpm
  clear hpm hmk'
  go_loopg [10] 200 (fun k i wr => ∃ (j n mn : Nat) (L : List ItD) (v : Value), k = 200 - j ∧ j ≤ 200 ∧ j ≤ len1 ∧ i = .int .i64 j ∧ n ≤ 2002 * j ∧ mn ≤ j ∧ L.length ≤ j ∧ SortS E EB W wr (w1.heap.size + 1) w1.heap.size (w1.heap.size + 2) pm n mn (s + 1) L v)
  case atStart => exact ⟨0, 0, 0, [], _, rfl, by omega, by omega, rfl, by omega, by omega, by simp, HH2.out, by rw [setM_nil]; exact M2.out, (fun y hy => by cases hy), F2.out⟩
  case round =>
    obtain ⟨j, n, mn, L, v, rfl, hj, hjl, rfl, hn, hmn, hll, hh⟩ := hrel
    have HH := Lib.hid hh
    clear hh
    by_cases hlt : j < len1 ∧ j < 200
    · have d1 : decide (j < len1) = true := decide_eq_true hlt.1
      have d2 : decide ((j : Int) < 200) = true := decide_eq_true (by omega)
      obtain ⟨bb, o, rfl, hbb, hcell⟩ := H1.out.rows.at_ (by omega)
      have C0 := Lib.hid (hcell j hlt.1 0 _ rfl)
      have C1 := Lib.hid (hcell j hlt.1 1 _ rfl)
      have C2 := Lib.hid (hcell j hlt.1 2 _ rfl)
      have hids := H1.out.ids j
      clear hcell
      generalize L1.getD j default = x at C0 C1 C2 hids
      have y0 : wr.cell? ⟨bb, o + j * 3, none⟩ = some (.int .i64 x.id) := cell_fr C0.out HH.out.fr
      have y1 : wr.cell? ⟨bb, o + j * 3 + 1, none⟩ = some (.int .i64 x.base) := cell_fr C1.out HH.out.fr
      have y2 : wr.cell? ⟨bb, o + j * 3 + 2, none⟩ = some (.int .i64 x.since) := cell_fr C2.out HH.out.fr
      have C := put_c hE hEg HH.out.hp x hids.1 (by omega)
      simp only [ItD.val] at C
      have D := Lib.hid C
      clear C
      go_wp2_with fail
      refine D.out.mono ?_
      rintro e w5 ⟨rfl, N⟩
      obtain ⟨n5, v5, hn5, h5, m5, ne5, f5, _⟩ := HH.out.step N (by omega) (by omega) (by omega) (by omega) (by omega)
      by_cases hp : putE L x = 0
      · have hlen : (putL ((s : Int) + 1) L x).length = L.length + 1 := (putL_perm hp).length_eq
        have hset := setM_put (s := (s : Int) + 1) hp
        have hno : (setM L x.id).isSome = false := by
          unfold setM
          rw [if_neg (by rw [(putE_zero.1 hp).2.1]; simp)]
          rfl
        obtain ⟨w6, hrun, m6, f6⟩ := m5.store (t := 56) Try.underlying3 Try.underlying56 (by unfold maxLen; omega) hids.1 (v := true) (hBg true)
        rw [hB] at hrun
        rw [hno, if_neg (by simp), hset] at m6
        have y0 : w5.cell? ⟨bb, o + j * 3, none⟩ = some (.int .i64 x.id) := cell_fr C0.out f5
        have H6 := Lib.hid (h5.frS f6 (by simp; omega) (by simp; omega) (fun y hy => by simp; exact ne5 y hy))
        have M6 := Lib.hid m6
        have N6 := Lib.hid ne5
        have F6 := Lib.hid (f5.trans f6 (fun y hy => by simp at hy; subst hy; exact .inr (by omega)))
        have HL := Lib.hid hlen
        rw [hp]
        clear y1 y2 N h5 m5 ne5 f5 hp hlen hset hno m6 f6 D
        go_wp2_with fail
        go_roundg (200 - (j + 1))
        case measure => omega
        case rel => exact ⟨j + 1, n5, mn + 1, _, v5, rfl, by omega, by omega, rfl, by omega, by omega, by have := HL.out; omega, H6.out, by rw [HL.out]; exact M6.out, N6.out, F6.out⟩
      · have hec : (putE L x == 0) = false := beq_eq_false_iff_ne.2 hp
        have hsame := putL_same (s := (s : Int) + 1) hp
        rw [hsame] at h5
        have H5 := Lib.hid h5
        have M5 := Lib.hid m5
        have N5 := Lib.hid ne5
        have F5 := Lib.hid f5
        clear y1 y2 N h5 m5 ne5 f5 hp hsame D
        generalize putE L x = ec at hec ⊢
        go_wp2_with fail
        go_roundg (200 - (j + 1))
        case measure => omega
        case rel => exact ⟨j + 1, n5, mn, _, v5, rfl, by omega, by omega, rfl, by omega, by omega, by omega, H5.out, M5.out, N5.out, F5.out⟩
    · have hex : decide (j < len1) = false ∨ (decide (j < len1) = true ∧ decide ((j : Int) < 200) = false) := by
        by_cases h : j < len1
        · exact .inr ⟨decide_eq_true h, decide_eq_false (by omega)⟩
        · exact .inl (decide_eq_false h)
      have hlen := HH.out.mp.len Try.underlying56
      have HLEN := Lib.hid hlen
      clear hlt hlen
      generalize hnn : L.length = nn at *
      have HNN := Lib.hid hnn
      have hnn2 : nn ≤ 200 := by omega
      clear hnn
      rcases hex with d1 | ⟨d1, d2⟩
      all_goals
        have hlen := HLEN.out
        go_wp2_with fail
        clear hlen
        obtain ⟨wo, rfl⟩ : ∃ wo, wo = wr := ⟨_, rfl⟩
        go_loopg [12, 13, 14] nn (fun k last id i wr => ∃ (t n mn : Nat) (L : List ItD) (v : Value) (la id0 : Int), k = nn - t ∧ t + L.length = nn ∧ last = .int .i64 la ∧ id = .int .i64 id0 ∧ i = .int .i64 t ∧ n ≤ 400400 + 5000 * t ∧ mn ≤ 200 ∧ LastI (s + 1) now t la id0 L ∧ SortS E EB W wr (w1.heap.size + 1) w1.heap.size (w1.heap.size + 2) pm n mn (s + 1) L v)
        case atStart => exact ⟨0, n, mn, L, v, 0, 0, rfl, by rw [HNN.out]; omega, rfl, rfl, rfl, by omega, by omega, .inl rfl, HH.out⟩
        case round =>
          clear HH HLEN HNN hn hmn hll
          obtain ⟨t, n, mn, L, v, la, id0, rfl, htl, rfl, rfl, rfl, hn, hmn, hla, hh⟩ := hrel
          have HH := Lib.hid hh
          have HLA := Lib.hid hla
          clear hh hla
          by_cases hlt : t < nn
          · have d3 : decide (t < nn) = true := decide_eq_true hlt
            have h0 : 0 < L.length := by omega
            have HTL := Lib.hid htl
            have hmem : topX L ∈ L := getD_mem L 0 h0
            have hgood := HH.out.hp.good
            have hid := hgood.ids _ hmem
            have hwt := weight_top (now := (now : Int)) hgood h0
            have hcl : clampN (now : Int) = now := by unfold clampN; rw [if_neg (by omega), if_neg (by omega)]
            rw [hcl] at hwt
            have hnext := LastI.next (nw := (now : Int)) (last := la) (id := id0) (j := t) HH.out.hp.ord h0
            have hset := setM_pop (s := (s : Int) + 1) hgood h0
            have hst := setM_top h0
            have hfits := HLA.out.fits h0
            have hpl := (popL_perm (s := (s : Int) + 1) h0).length_eq
            have hnon : nonB L = true := decide_eq_true h0
            have C1 := fun w' f => peek_c (HS.fr (w' := w') HH.out.hp f)
            have C2 := fun w' f => weight_any E hE hE0 _ _ _ _ _ _ _ (topX L).id now w' (HS.fr (w' := w') HH.out.hp f).at_ hgood hid
            have C3 := fun w' f => pop_c hE hE0 hEg (HS.fr (w' := w') HH.out.hp f) (by omega)
            rw [hwt.1, hwt.2] at C2
            rw [hnon] at C1 C3
            generalize hx : topX L = x at *
            generalize hwx : weight ((s : Int) + 1) x + now = wx at *
            have hwb : -9223372036854775808 ≤ wx ∧ wx ≤ 9223372036854775807 := by
              have hok := hgood.ok x hmem
              have := prod_in (s := (s : Int) + 1) hgood.step hok.1 hok.2.1
              have e1 : weight ((s : Int) + 1) x = x.base * ((s : Int) + 1) - x.since := rfl
              have := hok.2.2
              omega
            clear hx hwx hmem hgood hcl htl hwt
            simp only [ItD.val] at C1 C3
            have D1 := Lib.hid C1
            have D2 := Lib.hid C2
            have D3 := Lib.hid C3
            have HNX := Lib.hid hnext
            have HSET := Lib.hid hset
            have HST := Lib.hid hst
            have HFI := Lib.hid hfits
            have HPL := Lib.hid hpl
            have HID := Lib.hid hid
            clear C1 C2 C3 hnext hset hst hfits hpl hid h0 hnon
            go_wp2_with fail
            refine (D1.out _ (Fr.refl [] _)).mono ?_
            rintro e w5 ⟨rfl, f5⟩
            have F5 := Lib.hid (f5.alloc (.cells #[.int .i64 x.id, .int .i64 x.base, .int .i64 x.since] 32))
            have X5 := Lib.hid (Row.new w5 [.int .i64 x.id, .int .i64 x.base, .int .i64 x.since] 32)
            have hw5 : wr.heap.size ≤ w5.heap.size := f5.size
            clear f5
            go_wp2_with fail
            refine (D2.out _ F5.out).mono ?_
            rintro e w6 ⟨rfl, f6⟩
            have F6 := Lib.hid (F5.out.trans f6 (fun y hy => .inl hy))
            have X6 := Lib.hid (X5.out.fr f6 (by simp))
            clear f6
            go_wp2_with fail
            refine (D3.out _ F6.out).mono ?_
            rintro e w7 ⟨rfl, N⟩
            have S6 := HH.out.fr2 F6.out
            obtain ⟨n7, v7, hn7, h7, m7, ne7, f7, g7⟩ := S6.step N (by omega) (by omega) (by omega) (by omega) (by omega)
            have hlow := HH.out.hp.low
            have x7 := X6.out.fr g7 (by
              intro hy
              simp only [List.mem_cons, Option.mem_toList] at hy
              rcases hy with hy | hy | hy
              · omega
              · omega
              · have := (HH.out.hp.at_.row.lt _ hy).2; omega)
            have fa := (Fr.refl [] w7).alloc (.cells #[.int .i64 x.id, .int .i64 x.base, .int .i64 x.since] 32)
            have X7 := x7.fr fa (by simp)
            have p0 : (w7.alloc (.cells #[.int .i64 x.id, .int .i64 x.base, .int .i64 x.since] 32)).cell? ⟨w5.heap.size, 0, none⟩ = some (.int .i64 x.id) := X7.cell 0
            have p1 : (w7.alloc (.cells #[.int .i64 x.id, .int .i64 x.base, .int .i64 x.since] 32)).cell? ⟨w5.heap.size, 1, none⟩ = some (.int .i64 x.base) := X7.cell 1
            have p2 : (w7.alloc (.cells #[.int .i64 x.id, .int .i64 x.base, .int .i64 x.since] 32)).cell? ⟨w5.heap.size, 2, none⟩ = some (.int .i64 x.since) := X7.cell 2
            have M8 := Lib.hid (m7.fr fa (by simp))
            have H8 := Lib.hid (h7.fr fa)
            have F8 := Lib.hid (f7.trans fa (fun y hy => .inl hy))
            have N8 := Lib.hid ne7
            have hlk := M8.out.f.look1 (t := 56) Try.underlying3 Try.underlying56 HID.out
            rw [HST.out] at hlk
            rw [show EB.val ((some true).getD EB.zero) = .bool true from hB true] at hlk
            obtain ⟨w9, hdel, m9, f9⟩ := M8.out.drop Try.underlying3 Try.underlying56 HID.out 0
            rw [HST.out, HSET.out] at m9
            have M9 := Lib.hid m9
            have H9 := Lib.hid (H8.out.frS f9 (by simp; omega) (by simp; omega) (fun y hy => by simp; exact N8.out y hy))
            have x9 := Lib.hid ((Row.new w7 [.int .i64 x.id, .int .i64 x.base, .int .i64 x.since] 32).fr f9 (by simp; have := m7.lt; omega))
            have F9 := Lib.hid (F8.out.trans f9 (fun y hy => by simp at hy; subst hy; exact .inr (by omega)))
            clear S6 N h7 m7 ne7 f7 g7 x7 fa X7 m9 f9 D1 D2 D3
            have hq : (decide ((t : Int) > 0) = false ∧ decide (0 < t) = false) ∨ (decide ((t : Int) > 0) = true ∧ decide (0 < t) = true) ∧ decide (wx > la) = false ∧ ((wx == la) = false ∨ (wx == la) = true ∧ decide (x.id < id0) = false) := by
              by_cases ht : t = 0
              · exact .inl ⟨decide_eq_false (by omega), decide_eq_false (by omega)⟩
              · have h1 := HFI.out ht
                refine .inr ⟨⟨decide_eq_true (by omega), decide_eq_true (by omega)⟩, h1.1, ?_⟩
                cases h2 : (wx == la) with
                | false => exact .inl rfl
                | true => exact .inr ⟨rfl, h1.2 h2⟩
            rcases hq with ⟨q1, q1'⟩ | ⟨⟨q1, q1'⟩, q2, q3 | ⟨q3, q4⟩⟩
            all_goals
              go_wp2_with fail
              have y0 : w9.cell? ⟨w7.heap.size, 0, none⟩ = some (.int .i64 x.id) := x9.out.cell 0
              go_region_held_law (fun w' => w'.cell? ⟨w7.heap.size, 0, none⟩ = some (.int .i64 x.id)) (first | exact x9.out.cell 0 | go_keep) (fail)
              go_wp2_with fail
              go_roundg (nn - (t + 1))
              case measure => omega
              case rel => exact ⟨t + 1, n7, mn, _, v7, wx, x.id, rfl, by have := HPL.out; have := HTL.out; simp only [List.length_cons] at *; omega, rfl, rfl, rfl, by omega, by omega, HNX.out, (H9.out.fr ((Fr.refl [] _).drew)), (by have := HPL.out; simp only [List.length_cons] at this; rw [← this] at M9; exact M9.out.fr ((Fr.refl [] _).drew) (by simp)), N8.out, F9.out.drew⟩
          · have d3 : decide (t < nn) = false := decide_eq_false hlt
            obtain rfl : L = [] := List.eq_nil_of_length_eq_zero (by omega)
            have C := pop_c hE hE0 hEg HH.out.hp (by omega)
            rw [show topX [] = default from rfl, show nonB [] = false from rfl, show popL ((s : Int) + 1) [] = [] from rfl] at C
            simp only [ItD.val, show (default : ItD).id = 0 from rfl, show (default : ItD).base = 0 from rfl, show (default : ItD).since = 0 from rfl] at C
            have D := Lib.hid C
            clear C htl hlt
            go_wp2_with fail
            refine D.out.mono ?_
            rintro e w5 ⟨rfl, N⟩
            obtain ⟨n5, v5, hn5, h5, m5, ne5, f5, g5⟩ := HH.out.step N (by omega) (by omega) (by omega) (by omega) (by omega)
            have fa := (Fr.refl [] w5).alloc (.cells #[.int .i64 0, .int .i64 0, .int .i64 0] 32)
            have C := hlen_any E _ _ _ _ _ _ _ _ (h5.fr fa).at_
            have D2 := Lib.hid C
            have F6 := Lib.hid (f5.trans fa (fun y hy => .inl hy))
            clear C N h5 m5 ne5 f5 g5 fa D
            go_wp2_with fail
            refine D2.out.mono ?_
            rintro e w6 ⟨rfl, hw6⟩
            rw [← hw6]
            clear hw6 D2
            go_wp2_with fail
            go_ret
            exact ⟨rfl, F6.out.nil_below⟩
end Go.Proofs.Ytpjmmhpkiepbmaa
