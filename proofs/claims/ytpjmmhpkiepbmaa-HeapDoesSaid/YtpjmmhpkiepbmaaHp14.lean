/- The items sorted: slices.SortFunc by the heap's order. -/
import Derived.Test.YtpjmmhpkiepbmaaHp13
import Derived.Test.YtpjmmhpkiepbmaaShelf
import Derived.Shelf.SlSortCmp.NoneTotal
set_option linter.unusedVariables false
set_option linter.unusedSimpArgs false
namespace Go.Proofs.Ytpjmmhpkiepbmaa
open Go.RowKit Go.Sort
theorem get_bang {α : Type} [Inhabited α] (l : List α) (i : Nat) (h : i < l.length) : l[i]? = some l[i]! := by rw [getElem!_pos l i h, List.getElem?_eq_getElem h]
def gis (L : List ItD) (h : ∀ x ∈ L, x.ok ∧ inI x.id) : Array GI := (L.attachWith (fun x => x.ok ∧ inI x.id) h).toArray
theorem gis_size (L : List ItD) (h : ∀ x ∈ L, x.ok ∧ inI x.id) : (gis L h).size = L.length := by simp [gis]
theorem gis_val (L : List ItD) (h : ∀ x ∈ L, x.ok ∧ inI x.id) : (gis L h).toList.map (·.1) = L := by simp [gis]
theorem gis_get (L : List ItD) (h : ∀ x ∈ L, x.ok ∧ inI x.id) (i : Nat) (hi : i < L.length) : ((gis L h)[i]!).1 = L.getD i default := by
  rw [getElem!_pos _ i (by rw [gis_size]; exact hi), getD_lt L i hi]
  simp [gis]
def SortedI (w : World) (g : Nat) (s : Int) (L : List ItD) (e : Ending) (w' : World) : Prop :=
  e = .returned (.tuple #[]) ∧ ∃ D : List ItD, D.Perm L ∧ Srt s D ∧ (∀ j u, (icells D)[j]? = some u → w'.cell? ⟨g, 0 + j, none⟩ = some u) ∧ Fr [g] w w'
theorem encI_len (x : GI) : (encI x).length = 3 := rfl
theorem encI_one (x : GI) : ∀ v ∈ encI x, v.oneCell' = true := by
  intro v hv
  unfold encI ItD.cells at hv
  simp only [List.mem_cons, List.not_mem_nil, or_false] at hv
  rcases hv with rfl | rfl | rfl <;> rfl
theorem holds_items {w : World} {g : Nat} {C : List Value} {L : List ItD} {t : TypeId} (h : ∀ x ∈ L, x.ok ∧ inI x.id) (hr : Row w g (icells L ++ C) t) : HoldsK encI 3 w g 0 (gis L h) := by
  intro j hj
  rw [size_flatK, gis_size] at hj
  refine ⟨?_, hr.frozen _⟩
  have h3 : j / 3 < L.length := by omega
  have e1 : j = j / 3 * 3 + j % 3 := by omega
  have h4 := icells_at L (j / 3) (j % 3) h3 (by omega)
  rw [Nat.zero_add, hr.cell, List.getElem?_append_left (by rw [icells_length]; omega), get_flatK _ _ _ _ (by rw [gis_size]; omega)]
  rw [← e1] at h4
  rw [h4]
  unfold encI
  rw [gis_get L h _ h3]
  show _ = some (((L.getD (j / 3) default).cells)[j % 3]!)
  exact get_bang _ _ (by show _ < 3; omega)
theorem sort_items (b bx g cap : Nat) (s : Int) (L : List ItD) (C : List Value) (w : World) (hb : w.cell? ⟨bx, 0, none⟩ = some (.pointer (some ⟨b, 0, none⟩))) (hs : w.cell? ⟨b, 0, none⟩ = some (.int .i64 s)) (hok : stepOk s) (hL : ∀ x ∈ L, x.ok ∧ inI x.id) (hr : Row w g (icells L ++ C) 32) (hgb : b ≠ g) (hgx : bx ≠ g) (hl : L.length ≤ 1000) :
    Calls Try.prog 29 #[.slice (some ⟨g, 0, none⟩) L.length cap, .func (.func 30) #[] #[.pointer (some ⟨bx, 0, none⟩)]] w (SortedI w g s L) := by
  have eg : ∀ args w, (callFunc 30 args).run Try.prog w = .ok (.enter 30 args) w := enters_of Try.func30 (by kernel_rfl) rfl
  have hH := holds_items hL hr
  have hcmp : CmpLays Try.prog 30 #[.pointer (some ⟨bx, 0, none⟩)] encI 3 (cmpI s) g 0 (gis L hL).size w := by
    intro m os dk hdk x y
    have hf := fr_sortWorld encI 3 w g 0 m dk os
    have hb' : (sortWorldK encI 3 w g 0 m dk os).cell? ⟨bx, 0, none⟩ = some (.pointer (some ⟨b, 0, none⟩)) := by
      rw [World.cell?_of_block (hf.block bx (World.block_lt_of_cell? w _ hb) (by simp; exact hgx))]; exact hb
    have hs' : (sortWorldK encI 3 w g 0 m dk os).cell? ⟨b, 0, none⟩ = some (.int .i64 s) := by
      rw [World.cell?_of_block (hf.block b (World.block_lt_of_cell? w _ hs) (by simp; exact hgb))]; exact hs
    exact cmp30 b bx s x.1 y.1 _ hb' hs' hok x.2.1 y.2.1
  have h := AnyQ.slices_SortFunc sortItems 3 Try.isAgg32 Try.sizeOf32 encI encI_len encI_one (cmpI s) (swoI s) 30 #[.pointer (some ⟨bx, 0, none⟩)] g 0 cap (gis L hL) w eg hcmp hH hr.lt (by rw [gis_size]; omega)
  rw [gis_size] at h
  change Calls Try.prog 29 _ _ _ at h
  refine h.mono ?_
  rintro e w' ⟨rfl, d', n, os, hp, hso, rfl⟩
  have hds : d'.size = L.length := hp.1.trans (gis_size L hL)
  have hpp : (d'.toList.map (·.1)).Perm L := by
    have h1 := hp.2.2.map (·.1)
    rw [show d'.extract 0 L.length = d' by rw [← hds]; simp, show (gis L hL).extract 0 L.length = gis L hL by rw [← gis_size L hL]; simp, gis_val] at h1
    exact h1
  refine ⟨rfl, d'.toList.map (·.1), hpp, ?_, ?_, fr_sortWorld encI 3 w g 0 n d' os⟩
  · unfold Srt
    rw [List.pairwise_iff_getElem]
    intro i j hi hj hij
    have hj2 : j < d'.size := by simpa using hj
    have h2 := hso i j (Nat.zero_le _) hij (by omega)
    rw [ltOf_cmpI, getElem!_pos d' j hj2, getElem!_pos d' i (by omega)] at h2
    simpa using h2
  · have hK := holdsK_sortWorldK_c encI 3 w g 0 (gis L hL) d' n os hH hr.lt (by rw [hds, gis_size])
    intro j u hu
    have hj : j < L.length * 3 := by
      have := (List.getElem?_eq_some_iff.1 hu).1
      rw [icells_length, List.length_map, Array.length_toList, hds] at this
      exact this
    have hc := hK.cell (i := j / 3) (c := j % 3) (by omega) (by omega)
    have h4 := icells_at (d'.toList.map (·.1)) (j / 3) (j % 3) (by simp; omega) (by omega)
    rw [show j / 3 * 3 + j % 3 = j by omega] at h4
    rw [show 0 + j / 3 * 3 + j % 3 = 0 + j by omega] at hc
    rw [hc.1, ← hu, h4]
    have h6 : (d'.toList.map (·.1)).getD (j / 3) default = (d'[j / 3]!).1 := by
      rw [getD_lt _ _ (by simp; omega), getElem!_pos d' (j / 3) (by omega)]
      simp
    rw [h6]
    exact (get_bang _ _ (by show _ < 3; omega)).symm
theorem sort_none (a : Option Addr) (cap : Nat) (fv : Value) (w : World) : Calls Try.prog 29 #[.slice a 0 cap, fv] w fun e w' => e = .returned (.tuple #[]) ∧ w = w' := by
  have h := AnyF.slices_SortFunc_none sortItems a cap fv w
  change Calls Try.prog 29 _ _ _ at h
  exact h.mono fun _ _ ⟨h1, h2⟩ => ⟨h1, h2.symm⟩
/-- What List answers: the items in order, in a row of its own. -/
def ListedI (w : World) (s : Int) (L : List ItD) (e : Ending) (w' : World) : Prop :=
  ∃ a c D, e = .returned (.slice a L.length c) ∧ D.Perm L ∧ Srt s D ∧ ItemsAt w' a L.length D ∧ (∀ g o, a = some ⟨g, o, none⟩ → w.heap.size ≤ g) ∧ Fr [] w w'
set_option maxRecDepth 100000 in
theorem list_any (E : ElemOf Try.prog 3 Int) (b m base n : Nat) (step : Int) (L : List ItD) (v : Value) (w : World) (h : HpAt E w b m base n step L v) (hg : Good step L) :
    Calls Try.prog 22 #[.pointer (some ⟨b, 0, none⟩)] w (ListedI w step L) := by
  have hf := (Fr.refl [] w).alloc (.cells #[.pointer (some ⟨b, 0, none⟩)] 24)
  have h1 := h.fr hf
  have c1 := h1.head.cell 1
  simp only [List.getElem?_cons_succ, List.getElem?_cons_zero] at c1
  have c0 := h1.head.cell 0
  simp only [List.getElem?_cons_zero] at c0
  have bx := (Row.new w [.pointer (some ⟨b, 0, none⟩)] 24).cell 0
  simp only [List.getElem?_cons_zero] at bx
  have hbw := h.head.lt
  have hwb : (w.alloc (.cells #[.pointer (some ⟨b, 0, none⟩)] 24)).heap.size = w.heap.size + 1 := by simp
  rcases h.row.2 with ⟨rfl, h0⟩ | ⟨g, cap, cur, rfl, hgb, hg1, hn, hcm, hcs, ht⟩
  · obtain rfl : L = [] := List.eq_nil_of_length_eq_zero h0
    have HF := Lib.hid hf
    clear h h1 h0 hf c0 bx hg hwb
    go_enter Try.func22, Try.ntmps22
    go_wp2_with fail
    refine (clone_nil 0 0 _).mono ?_
    rintro e w1 ⟨rfl, hw1⟩
    rw [← hw1]
    clear hw1
    go_wp2_with fail
    refine (sort_none _ _ _ _).mono ?_
    rintro e w2 ⟨rfl, hw2⟩
    rw [← hw2]
    clear hw2
    go_wp2_with fail
    go_ret
    exact ⟨none, 0, [], rfl, List.Perm.refl _, List.Pairwise.nil, ⟨rfl, fun h => absurd h (by simp)⟩, (fun _ _ h => by cases h), HF.out⟩
  · have hR : Row w g cur.toList 32 := hg1
    have hcells : ∀ j u, (icells L)[j]? = some u → (w.alloc (.cells #[.pointer (some ⟨b, 0, none⟩)] 24)).cell? ⟨g, 0 + j, none⟩ = some u := by
      intro j u hu
      rw [Nat.zero_add, (hR.fr hf (by simp)).cell j, ← List.take_append_drop (L.length * 3) cur.toList, ht, List.getElem?_append_left ((List.getElem?_eq_some_iff.1 hu).1)]
      exact hu
    have C1 := clone_some g 0 L.length cap L _ rfl hg.few hcells
    have D1 := Lib.hid C1
    have HF := Lib.hid hf
    have HG := Lib.hid hg
    have HWB := Lib.hid hwb
    have C0 := Lib.hid c0
    have BX := Lib.hid bx
    clear h h1 hf c0 bx hg hwb hR hcells C1 hg1 hn hcm hcs ht
    go_enter Try.func22, Try.ntmps22
    go_wp2_with fail
    refine D1.out.mono ?_
    rintro e w1 ⟨v', rfl, ho, hnn, hf1⟩
    rcases ho.2 with ⟨hv, _⟩ | ⟨k, cap', cur', rfl, hkb, hk1, hn', hcm', hcs', ht'⟩
    · exact absurd hv hnn
    · have hR' : Row w1 k (icells L ++ cur'.toList.drop (L.length * 3)) 32 := by
        have : Row w1 k cur'.toList 32 := hk1
        rw [← ht', List.take_append_drop]
        exact this
      have hkw : w.heap.size + 1 ≤ k := by rw [← HWB.out]; exact hkb
      have hs := fun cap => sort_items b w.heap.size k cap step L _ w1 (cell_fr BX.out hf1) (cell_fr C0.out hf1) HG.out.step (fun x hx => ⟨HG.out.ok x hx, HG.out.ids x hx⟩) hR' (by omega) (by omega) HG.out.few
      have HS := Lib.hid hs
      have F1 := Lib.hid hf1
      clear ho hnn hf1 hk1 hn' hcm' hcs' ht' hR' hs D1
      go_wp2_with fail
      refine (HS.out _).mono ?_
      rintro e w2 ⟨rfl, D, hp, hsrt, hce, hf2⟩
      have HH := Lib.hid (show ListedI w step L (.returned (.slice (some ⟨k, 0, none⟩) L.length cap')) w2 from
        ⟨some ⟨k, 0, none⟩, cap', D, rfl, hp, hsrt, ⟨hp.length_eq, fun _ => ⟨k, 0, rfl, hce⟩⟩, (fun g o h => by cases h; omega), (HF.out.trans F1.out (fun y hy => .inl hy)).trans hf2 (fun y hy => .inr (by simp at hy; omega))⟩)
      clear hp hsrt hce hf2
      go_wp2_with fail
      go_ret
      exact HH.out
end Go.Proofs.Ytpjmmhpkiepbmaa
