/- Parts of the proof: Tr8. (Merged by pack.py.) -/
import Derived.Test.YtclkahggfdnpgaaDz8
set_option linter.unusedVariables false
set_option linter.unusedSimpArgs false
namespace Go.Proofs.Ytclkahggfdnpgaa
open Go.RowKit
def NewOk (N : List MarkD) (w : World) (e : Ending) (w' : World) : Prop :=
  ∃ a c, e = .returned (.tuple #[.slice a N.length c, .int .i64 0]) ∧ MarksAt w' a N.length N ∧ Fr [] w w' ∧ ∀ g o, a = some ⟨g, o, none⟩ → w.heap.size ≤ g
theorem nextF_ok0 {N : List MarkD} {w : World} {e : Ending} {w' : World} (h : NextF N 0 w e w') : NewOk N w e w' := by
  obtain ⟨a, c, h1, h2, h3, h4⟩ := h
  rw [if_pos rfl] at h1
  rw [if_pos rfl, if_pos rfl] at h2
  exact ⟨a, c, h1, h2, h3, h4⟩
def hasP (n many : Int) : Bool := decide (n ≥ 0) && decide (n < many)
theorem has_any (n many : Int) (w : World) : Calls Try.prog 75 #[.int .i64 n, .int .i64 many] w fun e w' => e = .returned (.bool (hasP n many)) ∧ Fr [] w w' := by
  by_cases h1 : n ≥ 0
  · have d1 : decide (n ≥ 0) = true := decide_eq_true h1
    have hb : hasP n many = decide (n < many) := by unfold hasP; rw [d1, Bool.true_and]
    rw [hb]
    clear hb h1
    go_enter Try.func75, Try.ntmps75
    go_wp2_with fail
    go_ret
    exact ⟨rfl, Fr.refl _ _⟩
  · have d1 : decide (n ≥ 0) = false := decide_eq_false h1
    have hb : hasP n many = false := by unfold hasP; rw [d1, Bool.false_and]
    rw [hb]
    clear hb h1
    go_enter Try.func75, Try.ntmps75
    go_wp2_with fail
    go_ret
    exact ⟨rfl, Fr.refl _ _⟩
theorem mem_setI {L : List InsD} {j : Nat} (hj : j < L.length) (nd : (L.map (·.b)).Nodup) {x' y : InsD} (hy : y ∈ L.set j x') : y = x' ∨ (y ∈ L ∧ y.b ≠ (L.getD j default).b) := by
  obtain ⟨i, hi, he⟩ := List.getElem_of_mem hy
  rw [List.length_set] at hi
  by_cases hij : j = i
  · subst hij
    rw [List.getElem_set_self] at he
    exact .inl he.symm
  · rw [List.getElem_set_ne hij] at he
    refine .inr ⟨he ▸ List.getElem_mem hi, fun hb => hij ?_⟩
    rw [← he, List.getD_eq_getElem?_getD, List.getElem?_eq_getElem hj] at hb
    have h1 : (L.map (·.b))[j]'(by simpa using hj) = (L.map (·.b))[i]'(by simpa using hi) := by
      rw [List.getElem_map, List.getElem_map]
      exact hb.symm
    have hnd : (L.map (·.b)).Pairwise (· ≠ ·) := nd
    have hpw := List.pairwise_iff_getElem.1 hnd
    rcases Nat.lt_trichotomy j i with h | h | h
    · exact absurd h1 (hpw j i _ _ h)
    · exact h
    · exact absurd h1.symm (hpw i j _ _ h)
/-- An instance's marking is another one. -/
def setMk (T : TreeD) (j : Nat) (a : Option Addr) (c : Nat) (M : List MarkD) : TreeD := { T with L := T.L.set j { T.L.getD j default with a := a, c := c, m := M } }
theorem setm_fin {w w1 : World} {tb hi : Nat} {T : TreeD} (h : TreeAt w tb hi T) {j : Nat} (hj : j < T.L.length) (f : Fr [] w w1) {a : Option Addr} {c : Nat} {M : List MarkD} (hm : MarksAt w1 a M.length M) (ha : ∀ g o, a = some ⟨g, o, none⟩ → w.heap.size ≤ g) :
    NextT tb hi T (setMk T j a c M) w (w1.setCell ⟨(T.L.getD j default).b, 2, none⟩ (.slice a M.length c)) := by
  have hx := getD_memD T.L j hj
  generalize hxe : T.L.getD j default = x at hx
  have fS : Fr [x.b] w1 (w1.setCell ⟨x.b, 2, none⟩ (.slice a M.length c)) := (Fr.refl _ w1).setCell (.inl (by simp)) _
  have f8 : Fr [x.b] w (w1.setCell ⟨x.b, 2, none⟩ (.slice a M.length c)) := (f.mono (by simp)).trans fS (fun y hy => .inl hy)
  have fB : Fr (T.blocks tb) w (w1.setCell ⟨x.b, 2, none⟩ (.slice a M.length c)) := f8.mono (fun y hy => by
    obtain rfl := List.mem_singleton.1 hy
    refine .inl ?_
    unfold TreeD.blocks
    simp only [List.mem_cons, List.mem_append]
    exact .inr (.inr (List.mem_map.2 ⟨x, hx, rfl⟩)))
  have hlow := h.low x hx
  have htbh := h.tbh
  have hbl := (h.ins x hx).lt
  have hmap : ∀ (g : InsD → Nat), (∀ y z : InsD, y.b = z.b → g y = g z) → (T.L.set j { x with a := a, c := c, m := M }).map g = T.L.map g := by
    intro g hg
    rw [List.map_set, hg { x with a := a, c := c, m := M } x rfl]
    apply List.ext_getElem?
    intro i
    by_cases hij : j = i
    · subst hij
      rw [List.getElem?_set_self (by simpa using hj), List.getElem?_map, getD_at _ _ hj, hxe]
      rfl
    · rw [List.getElem?_set_ne hij]
  have hptr : (T.L.set j { x with a := a, c := c, m := M }).map InsD.ptr = T.L.map InsD.ptr := by
    rw [List.map_set]
    apply List.ext_getElem?
    intro i
    by_cases hij : j = i
    · subst hij
      rw [List.getElem?_set_self (by simpa using hj), List.getElem?_map, getD_at _ _ hj, hxe]
      rfl
    · rw [List.getElem?_set_ne hij]
  have hbs : (setMk T j a c M).L.map (·.b) = T.L.map (·.b) := by
    unfold setMk
    rw [hxe]
    exact hmap _ (fun y z e => e)
  have hcase : ∀ y ∈ (setMk T j a c M).L, y = { x with a := a, c := c, m := M } ∨ (y ∈ T.L ∧ y.b ≠ x.b) := by
    intro y hy
    unfold setMk at hy
    rw [hxe] at hy
    have := mem_setI hj h.nd hy
    rwa [hxe] at this
  refine ⟨⟨h.head.fr f8 (by simp; omega), h.tmT fB, h.mpT fB, h.cmt, h.tbh, ?_, ?_, ?_, ?_, ?_, ?_, ?_, ?_⟩, fB, ?_, rfl, ?_⟩
  · have hr := own_frS h.row f8 (fun y hy hyb => by obtain rfl := List.mem_singleton.1 hyb; exact h.sep x hx hy)
    show World.ownsRow _ hi 127 1 T.v (setMk T j a c M).L.length ((setMk T j a c M).L.map InsD.ptr)
    unfold setMk
    rw [hxe]
    simp only [List.length_set]
    rw [hptr]
    exact hr
  · intro y hy
    rcases hcase y hy with rfl | ⟨hy, hne⟩
    · exact ((h.ins x hx).fr f (by simp)).setCell 2 _
    · exact (h.ins y hy).fr f8 (by simpa using hne)
  · intro y hy
    rcases hcase y hy with rfl | ⟨hy, hne⟩
    · refine MarksAt.frB hm fS (fun h0 g o hg hb => ?_)
      have := ha g o hg
      simp at hb
      omega
    · exact h.mkT fB hy
  · intro y hy h0 g o hg hv
    rcases hcase y hy with rfl | ⟨hy, hne⟩
    · have := ha g o hg
      have := h.rowlt hv
      omega
    · exact h.apart y hy h0 g o hg hv
  · intro y hy
    rcases hcase y hy with rfl | ⟨hy, hne⟩
    · exact hlow
    · exact h.low y hy
  · rw [hbs]; exact h.nd
  · intro y hy
    rcases hcase y hy with rfl | ⟨hy, hne⟩
    · exact h.sep x hx
    · exact h.sep y hy
  · show (setMk T j a c M).L.length ≤ 40
    unfold setMk
    rw [List.length_set]
    exact h.few
  · intro y hy
    refine .inl ?_
    unfold TreeD.blocks at hy ⊢
    rw [hbs] at hy
    exact hy
  · rintro g ⟨y, hy, o, h0, hya⟩
    rcases hcase y hy with rfl | ⟨hy, hne⟩
    · exact .inr (ha g o hya)
    · exact .inl ⟨y, hy, o, h0, hya⟩
theorem NextT.refl {w w' : World} {tb hi : Nat} {T : TreeD} (h : TreeAt w tb hi T) (f : Fr [] w w') : NextT tb hi T T w w' := ⟨h.fr f, f.mono (by simp), fun y hy => .inl hy, rfl, fun g hg => .inl hg⟩
theorem NextT.pre {w w1 w' : World} {tb hi : Nat} {T T' : TreeD} (h : NextT tb hi T T' w1 w') (f : Fr [] w w1) : NextT tb hi T T' w w' :=
  ⟨h.1, (f.mono (by simp)).trans h.2.1 (fun y hy => .inl hy), fun y hy => by rcases h.2.2.1 y hy with h1 | h1; exact .inl h1; exact .inr (Nat.le_trans f.size h1), h.2.2.2.1, fun g hg => by rcases h.2.2.2.2 g hg with h1 | h1; exact .inl h1; exact .inr (Nat.le_trans f.size h1)⟩
/-- What Do answers, and the tree behind it. -/
inductive DoR (T : TreeD) (id at' : Int) : Int → Int → TreeD → Prop where
  | none : (∀ x ∈ T.L, x.id ≠ id) → DoR T id at' 0 10 T
  | range {x : InsD} : x ∈ T.L → x.id = id → hasP at' x.m.length = false → DoR T id at' 0 3 T
  | off {x : InsD} : x ∈ T.L → x.id = id → hasP at' x.m.length = true → enabB (T.Fs.getD x.tp default) x.m at' = false → DoR T id at' 0 11 T
  | done {j : Nat} (a : Option Addr) (c : Nat) : j < T.L.length → (T.L.getD j default).id = id → hasP at' (T.L.getD j default).m.length = true → enabB (T.Fs.getD (T.L.getD j default).tp default) (T.L.getD j default).m at' = true →
      T.C (((T.L.getD j default).tp : Int), at') = Option.none → DoR T id at' (-1) 0 (setMk T j a c (doM (T.Fs.getD (T.L.getD j default).tp default) (T.L.getD j default).m at'.toNat))
  | hold {x : InsD} {q : CallD} : x ∈ T.L → x.id = id → hasP at' x.m.length = true → enabB (T.Fs.getD x.tp default) x.m at' = true → T.C ((x.tp : Int), at') = some q → q.many = false → 0 < (T.L.filter (isKid id at')).length → DoR T id at' 0 17 T
  | many {x : InsD} {q : CallD} : x ∈ T.L → x.id = id → hasP at' x.m.length = true → enabB (T.Fs.getD x.tp default) x.m at' = true → T.C ((x.tp : Int), at') = some q → (q.many = true ∨ (T.L.filter (isKid id at')).length = 0) → 40 ≤ T.L.length → DoR T id at' 0 4 T
  | spawn {x y : InsD} {q : CallD} {v : Value} : x ∈ T.L → x.id = id → hasP at' x.m.length = true → enabB (T.Fs.getD x.tp default) x.m at' = true → T.C ((x.tp : Int), at') = some q → (q.many = true ∨ (T.L.filter (isKid id at')).length = 0) → T.L.length < 40 →
      y.plain = ((T.next : Int), q.to_.toNat, (T.Fs.getD q.to_.toNat default).E.map startM, id, at') → DoR T id at' T.next 0 { T with v := v, L := T.L ++ [y], next := T.next + 1 }
def DoP (tb hi : Nat) (T : TreeD) (id at' : Int) (w : World) (e : Ending) (w' : World) : Prop :=
  ∃ r E T', e = .returned (.tuple #[.int .i64 r, .int .i64 E]) ∧ DoR T id at' r E T' ∧ NextT tb hi T T' w w'
set_option maxHeartbeats 4000000 in
set_option maxRecDepth 100000 in
theorem tdo_any (tb hi : Nat) (T : TreeD) (id at' : Int) (w : World) (h : TreeAt w tb hi T) (hg : Good T) (hhi : hi ≤ w.heap.size) :
    Calls Try.prog 41 #[.pointer (some ⟨tb, 0, none⟩), .int .i64 id, .int .i64 at'] w (DoP tb hi T id at' w) := by
  have C1 := of_any tb hi T id w h
  have HH := Lib.hid h
  have HG := Lib.hid hg
  clear h hg
  go_enter Try.func41, Try.ntmps41
  go_wp2_with fail
  refine C1.mono ?_
  rintro e w1 ⟨v, rfl, hv, hF⟩
  have F1 := Lib.hid hF
  clear hF C1
  rcases hv with ⟨rfl, hv⟩ | ⟨j, hj, rfl, hid⟩
  · have HV := Lib.hid hv
    clear hv
    go_wp2_with fail
    go_ret2
    exact ⟨0, 10, T, rfl, .none HV.out, .refl HH.out F1.out⟩
  · have hm := getD_memD T.L j hj
    obtain ⟨x, hxe⟩ : ∃ x, T.L.getD j default = x := ⟨_, rfl⟩
    rw [hxe] at hm hid
    have HXE := Lib.hid hxe
    have HJ := Lib.hid hj
    have HM := Lib.hid hm
    have HID := Lib.hid hid
    have x2 : w1.cell? ⟨x.b, 2, none⟩ = some (.slice x.a x.m.length x.c) := cell_fr' (HH.out.cellI hm 2) F1.out
    have hl := HG.out.len hm
    rw [show (T.L.getD j default).ptr = .pointer (some ⟨x.b, 0, none⟩) by rw [hxe]; rfl]
    clear hm hid hxe hj
    obtain ⟨ml, hml⟩ : ∃ n, n = x.m.length := ⟨_, rfl⟩
    rw [← hml] at x2 hl
    have HML := Lib.hid hml
    clear hml
    have C2 := has_any at' ml w1
    by_cases hr : hasP at' ml = false
    · rw [hr] at C2
      have HR := Lib.hid hr
      clear hr
      go_wp2_with fail
      refine C2.mono ?_
      rintro e w2 ⟨rfl, hF2⟩
      have F2 := Lib.hid (F1.out.trans hF2 (by simp))
      clear hF2 C2
      go_wp2_with fail
      go_ret2
      exact ⟨0, 3, T, rfl, .range HM.out HID.out (by rw [← HML.out]; exact HR.out), .refl HH.out F2.out⟩
    · have hr : hasP at' ml = true := by simpa using hr
      rw [hr] at C2
      have HR := Lib.hid hr
      have HR2 := Lib.hid (show 0 ≤ at' ∧ at' < ml by unfold hasP at hr; simpa using hr)
      clear hr
      obtain ⟨f, hf⟩ : ∃ f, T.Fs.getD x.tp default = f := ⟨_, rfl⟩
      have HFE := Lib.hid hf
      have hfB := (HH.out.tmpl.flats f (by rw [← hf]; exact HG.out.gf HM.out))
      have HFB := Lib.hid hfB
      have HMK := Lib.hid (HH.out.mks x HM.out)
      clear hf hfB
      go_wp2_with fail
      refine C2.mono ?_
      rintro e w2 ⟨rfl, hF2⟩
      have F2 := Lib.hid (F1.out.trans hF2 (by simp))
      have x2' : w2.cell? ⟨x.b, 2, none⟩ = some (.slice x.a ml x.c) := cell_fr' x2 hF2
      clear hF2 C2 x2
      go_wp2_with fail
      have D1 := Lib.hid (flat_any tb hi T x f w2.drew (HH.out.fr (F2.out.drewN 1)) HM.out (HG.out.tp x HM.out) HFE.out)
      have D2 := Lib.hid (fun w' (hF : Fr [] w2.drew w') => enab_any f x.a x.m.length x.c x.m at' w' (HFB.out.at.fr ((F2.out.drewN 1).trans hF (by simp))) (HMK.out.fr ((F2.out.drewN 1).trans hF (by simp))) (by rw [← HML.out]; omega))
      rw [← HML.out] at D2
      unfold InsD.ptr at D1
      unfold FlatD.val at D1 D2
      have KP := Lib.hid (fun w' (hF : Fr [] w2.drew w') => cell_fr' x2' (((Fr.refl [] w2).drew).trans hF (by simp)))
      obtain ⟨en, hen⟩ : ∃ b, enabB f x.m at' = b := ⟨_, rfl⟩
      rw [hen] at D2
      have HEN := Lib.hid hen
      clear hen
      go_region_held_law (fun w' => w'.cell? ⟨x.b, 2, none⟩ = some (.slice x.a ml x.c)) (first | exact KP.out _ hF3 | exact KP.out _ (hF3.trans hF4 (by simp)) | go_keep) (first | (go_at_call 77; refine D1.out.mono ?_; rintro e w3 ⟨rfl, hF3⟩) | (go_at_call 19; refine (D2.out _ hF3).mono ?_; rintro e w4 ⟨rfl, hF4⟩))
      have F4 := Lib.hid (((F2.out.drewN 1).trans hF3 (by simp)).trans hF4 (by simp))
      clear hF3 hF4 x2' KP D1 D2
      cases en
      · go_wp2_with fail
        go_ret2
        exact ⟨0, 11, T, rfl, .off HM.out HID.out (by rw [← HML.out]; exact HR.out) (by rw [HFE.out]; exact HEN.out), .refl HH.out F4.out⟩
      · go_wp2_with fail
        have H4 := Lib.hid (HH.out.fr F4.out)
        have c1 : w4.cell? ⟨tb, 1, none⟩ = some (.map (some T.cm)) := H4.out.head.cell 1
        have x1 : w4.cell? ⟨x.b, 1, none⟩ = some (.int .i64 x.tp) := H4.out.cellI HM.out 1
        have hz97 : ∀ w, (zeroValue 97).run Try.prog w = .ok (default : CallD).val w := fun w => by kernel_rfl
        have LK := Lib.hid (fun W' (f : Fr [] w4 W') => (H4.out.map.fr f (by simp)).look (t := 95) Try.underlying98 Try.underlying95 (hz97 W') ((x.tp : Int), at'))
        clear hz97
        rcases hC : T.C ((x.tp : Int), at') with _ | q
        · have HC := Lib.hid hC
          rw [hC] at LK
          have S8 := Lib.hid (fun W' (f : Fr [] w4 W') => ⟨cell_fr' c1 f, cell_fr' x1 f, LK.out W' f⟩ : ∀ W', Fr [] w4 W' → (W'.cell? ⟨tb, 1, none⟩ = some (.map (some T.cm)) ∧ W'.cell? ⟨x.b, 1, none⟩ = some (.int .i64 x.tp) ∧ (Instr.lookup 95 (.map (some T.cm)) (.agg #[.int .i64 x.tp, .int .i64 at']) true).run Try.prog W' = .ok (.tuple #[.agg #[.int .i64 0, .int .i64 0, .int .i64 0, .bool false], .bool false]) W'))
          clear hC LK
          go_region_held_law (fun W' => W'.cell? ⟨tb, 1, none⟩ = some (.map (some T.cm)) ∧ W'.cell? ⟨x.b, 1, none⟩ = some (.int .i64 x.tp) ∧ (Instr.lookup 95 (.map (some T.cm)) (.agg #[.int .i64 x.tp, .int .i64 at']) true).run Try.prog W' = .ok (.tuple #[.agg #[.int .i64 0, .int .i64 0, .int .i64 0, .bool false], .bool false]) W') (first | exact S8.out _ (((Fr.refl [] w4).drew).alloc _) | exact S8.out _ ((((Fr.refl [] w4).drew).alloc _).setCell (.inr (by simp)) _) | exact S8.out _ ((Fr.refl [] w4).drew) | go_keep) (fail)
          all_goals
            have F5 := Lib.hid ((F4.out.alloc (.cells #[.int .i64 0, .int .i64 0, .int .i64 0, .bool false] 97)).drew)
            generalize (w4.alloc (.cells #[.int .i64 0, .int .i64 0, .int .i64 0, .bool false] 97)).drew = w5 at *
            have x2 : w5.cell? ⟨x.b, 2, none⟩ = some (.slice x.a ml x.c) := by rw [HML.out]; exact cell_fr' (HH.out.cellI HM.out 2) F5.out
            have hE : doE f x.m at' = 0 := by
              have hft := HG.out.fit x HM.out
              rw [HFE.out] at hft
              have h2 := HR2.out
              unfold doE
              rw [if_neg (by rw [hft]; simp), if_neg (by rw [← HML.out]; omega), if_neg (by rw [HEN.out]; simp)]
            have D1 := Lib.hid (flat_any tb hi T x f w5.drew (HH.out.fr (F5.out.drewN 1)) HM.out (HG.out.tp x HM.out) HFE.out)
            have D2 := Lib.hid (fun w' (hF : Fr [] w5.drew w') => (hE ▸ do_fresh f x.a x.m.length x.c x.m at' w' (HFB.out.at.fr ((F5.out.drewN 1).trans hF (by simp))) (HMK.out.fr ((F5.out.drewN 1).trans hF (by simp))) (by rw [← HML.out]; omega) : Calls Try.prog 29 #[f.val, .slice x.a x.m.length x.c, .int .i64 at'] w' (NextF (doM f x.m at'.toNat) 0 w')).mono fun e w' h => nextF_ok0 h)
            generalize hN : doM f x.m at'.toNat = N at *
            have HN := Lib.hid hN
            clear hN
            rw [← HML.out] at D2
            unfold InsD.ptr at D1
            unfold FlatD.val at D1 D2
            have KP := Lib.hid (fun w' (hF : Fr [] w5.drew w') => cell_fr' x2 (((Fr.refl [] w5).drew).trans hF (by simp)))
            clear hE c1 x1
            go_wp2_with fail
            refine wp_region_lastM (S := (fun w' => w'.cell? ⟨x.b, 2, none⟩ = some (.slice x.a ml x.c))) 15 (by kernel_rfl) (KP.out _ (Fr.refl [] _)) (fun hHeld => ?_)
            refine wpAnyM_take (i := 0) (v := ?_) rfl (by kernel_rfl) (by kernel_rfl) (by kernel_rfl) (by kernel_rfl) (fun _ _ _ h => h) (Or.inl ⟨rfl, ?_⟩) hHeld ?_
            rotate_left
            · (intro w hSw; (try dsimp only at hSw); go_simp; try (with_reducible rfl))
            simp only [List.getElem_toArray, List.getElem_cons_succ, List.getElem_cons_zero, Act.put, List.setIfInBounds_toArray, List.set_cons_zero, List.set_cons_succ]
            refine wpAnyM_take (i := 1) (v := ?_) rfl (by kernel_rfl) (by kernel_rfl) (by kernel_rfl) (by kernel_rfl) (fun _ _ _ h => h) (Or.inl ⟨rfl, ?_⟩) hHeld ?_
            rotate_left
            · (intro w hSw; (try dsimp only at hSw); go_simp; try (with_reducible rfl))
            simp only [List.getElem_toArray, List.getElem_cons_succ, List.getElem_cons_zero, Act.put, List.setIfInBounds_toArray, List.set_cons_zero, List.set_cons_succ]
            refine wpAnyM_take (i := 2) (v := ?_) rfl (by kernel_rfl) (by kernel_rfl) (by kernel_rfl) (by kernel_rfl) (fun _ _ _ h => h) (Or.inl ⟨rfl, ?_⟩) hHeld ?_
            rotate_left
            · (intro w hSw; (try dsimp only at hSw); go_simp; try (with_reducible rfl))
            simp only [List.getElem_toArray, List.getElem_cons_succ, List.getElem_cons_zero, Act.put, List.setIfInBounds_toArray, List.set_cons_zero, List.set_cons_succ]
            refine wpAnyM_take (i := 4) (v := ?_) rfl (by kernel_rfl) (by kernel_rfl) (by kernel_rfl) (by kernel_rfl) (fun _ _ _ h => h) (Or.inl ⟨rfl, ?_⟩) hHeld ?_
            rotate_left
            · (intro w hSw; (try dsimp only at hSw); go_simp; try (with_reducible rfl))
            simp only [List.getElem_toArray, List.getElem_cons_succ, List.getElem_cons_zero, Act.put, List.setIfInBounds_toArray, List.set_cons_zero, List.set_cons_succ]
            refine wpAnyM_take (i := 5) (v := ?_) rfl (by kernel_rfl) (by kernel_rfl) (by kernel_rfl) (by kernel_rfl) (fun _ _ _ h => h) (Or.inl ⟨rfl, ?_⟩) hHeld ?_
            rotate_left
            · (intro w hSw; (try dsimp only at hSw); go_simp; try (with_reducible rfl))
            simp only [List.getElem_toArray, List.getElem_cons_succ, List.getElem_cons_zero, Act.put, List.setIfInBounds_toArray, List.set_cons_zero, List.set_cons_succ]
            refine wpAnyM_take (i := 6) (v := ?_) rfl (by kernel_rfl) (by kernel_rfl) (by kernel_rfl) (by kernel_rfl) (fun _ _ _ h => h) (Or.inl ⟨rfl, ?_⟩) hHeld ?_
            rotate_left
            · (intro w hSw; (try dsimp only at hSw); go_simp; try (with_reducible rfl))
            simp only [List.getElem_toArray, List.getElem_cons_succ, List.getElem_cons_zero, Act.put, List.setIfInBounds_toArray, List.set_cons_zero, List.set_cons_succ]
            refine wpAnyM_take (i := 7) (v := ?_) rfl (by kernel_rfl) (by kernel_rfl) (by kernel_rfl) (by kernel_rfl) (fun _ _ _ h => h) (Or.inl ⟨rfl, ?_⟩) hHeld ?_
            rotate_left
            · (intro w hSw; (try dsimp only at hSw); go_simp; try (with_reducible rfl))
            simp only [List.getElem_toArray, List.getElem_cons_succ, List.getElem_cons_zero, Act.put, List.setIfInBounds_toArray, List.set_cons_zero, List.set_cons_succ]
            refine wpAnyM_take (i := 8) (v := ?_) rfl (by kernel_rfl) (by kernel_rfl) (by kernel_rfl) (by kernel_rfl) (fun _ _ _ h => h) (Or.inl ⟨rfl, ?_⟩) hHeld ?_
            rotate_left
            · (intro w hSw; (try dsimp only at hSw); go_simp; try (with_reducible rfl))
            simp only [List.getElem_toArray, List.getElem_cons_succ, List.getElem_cons_zero, Act.put, List.setIfInBounds_toArray, List.set_cons_zero, List.set_cons_succ]
            refine wpAnyM_ready (rs := [3]) (by kernel_rfl) (by simp) ?_
            refine AllReadyM.cons rfl (fun K hK => ?_) AllReadyM.nil
            simp only [List.getElem_toArray, List.getElem_cons_succ, List.getElem_cons_zero]
            go_simp
            go_wp2_with (first | (go_at_call 77; refine D1.out.mono ?_; rintro e w6 ⟨rfl, hF6⟩))
            refine hK.out _ _ (KP.out _ hF6) (fun hHeld => ?_)
            clear hK K
            try simp only [List.getElem_toArray, List.getElem_cons_succ, List.getElem_cons_zero, Act.put, List.setIfInBounds_toArray, List.set_cons_zero, List.set_cons_succ]
            refine wpAnyM_ready (rs := [9]) (by kernel_rfl) (by simp) ?_
            refine AllReadyM.cons rfl (fun K hK => ?_) AllReadyM.nil
            simp only [List.getElem_toArray, List.getElem_cons_succ, List.getElem_cons_zero]
            go_simp
            go_wp2_with (first | (go_at_call 29; refine (D2.out _ hF6).mono ?_; rintro e w7 ⟨a7, c7, rfl, hM7, hF7, hfr7⟩))
            refine hK.out _ _ (KP.out _ (hF6.trans hF7 (by simp))) (fun hHeld => ?_)
            clear hK K
            try simp only [List.getElem_toArray, List.getElem_cons_succ, List.getElem_cons_zero, Act.put, List.setIfInBounds_toArray, List.set_cons_zero, List.set_cons_succ]
            have F7 := Lib.hid (((F5.out.drewN 1).trans hF6 (by simp)).trans hF7 (by simp))
            have hfr : ∀ g o, a7 = some ⟨g, o, none⟩ → w.heap.size ≤ g := fun g o hg => Nat.le_trans ((F5.out.drewN 1).trans hF6 (by simp)).size (hfr7 g o hg)
            have HFR := Lib.hid hfr
            have M7 := Lib.hid hM7
            clear hM7 hfr hfr7 hF6 hF7 D1 D2 KP x2
            refine wpAnyM_take (i := 10) (v := ?_) rfl (by kernel_rfl) (by kernel_rfl) (by kernel_rfl) (by kernel_rfl) (fun _ _ _ h => h) (Or.inl ⟨rfl, ?_⟩) hHeld ?_
            rotate_left
            · (intro w hSw; (try dsimp only at hSw); go_simp; try (with_reducible rfl))
            simp only [List.getElem_toArray, List.getElem_cons_succ, List.getElem_cons_zero, Act.put, List.setIfInBounds_toArray, List.set_cons_zero, List.set_cons_succ]
            refine wpAnyM_take (i := 11) (v := ?_) rfl (by kernel_rfl) (by kernel_rfl) (by kernel_rfl) (by kernel_rfl) (fun _ _ _ h => h) (Or.inl ⟨rfl, ?_⟩) hHeld ?_
            rotate_left
            · (intro w hSw; (try dsimp only at hSw); go_simp; try (with_reducible rfl))
            simp only [List.getElem_toArray, List.getElem_cons_succ, List.getElem_cons_zero, Act.put, List.setIfInBounds_toArray, List.set_cons_zero, List.set_cons_succ]
            refine wpAnyM_pure (i := 12) (v := ?_) rfl (by kernel_rfl) (by kernel_rfl) (by kernel_rfl) (by kernel_rfl) (fun _ _ _ h => h) (Or.inl ⟨rfl, ?_⟩) hHeld ?_
            rotate_left
            · (intro w hSw; go_simp; try (with_reducible rfl))
            simp only [List.getElem_toArray, List.getElem_cons_succ, List.getElem_cons_zero, Act.put, List.setIfInBounds_toArray, List.set_cons_zero, List.set_cons_succ]
            refine wpAnyM_ready (rs := [13]) (by kernel_rfl) (by simp) ?_
            refine AllReadyM.cons rfl (fun K hK => ?_) AllReadyM.nil
            simp only [List.getElem_toArray, List.getElem_cons_succ, List.getElem_cons_zero]
            go_simp
            refine hK.out _ _ (hHeld) (fun hHeld => ?_)
            clear hK K
            try simp only [List.getElem_toArray, List.getElem_cons_succ, List.getElem_cons_zero, Act.put, List.setIfInBounds_toArray, List.set_cons_zero, List.set_cons_succ]
            refine wpAnyM_take (i := 14) (v := ?_) rfl (by kernel_rfl) (by kernel_rfl) (by kernel_rfl) (by kernel_rfl) (fun _ _ _ h => h) (Or.inl ⟨rfl, ?_⟩) hHeld ?_
            rotate_left
            · (intro w hSw; (try dsimp only at hSw); go_simp; try (with_reducible rfl))
            simp only [List.getElem_toArray, List.getElem_cons_succ, List.getElem_cons_zero, Act.put, List.setIfInBounds_toArray, List.set_cons_zero, List.set_cons_succ]
            have y7 : w7.frozen? ⟨x.b, 2, none⟩ = false := ((HH.out.ins x HM.out).fr F7.out (by simp)).frozen 2
            refine wpAnyM_ready (rs := [15]) (by kernel_rfl) (by simp) ?_
            refine AllReadyM.end_ rfl (fun K hK => ?_)
            simp only [List.getElem_toArray, List.getElem_cons_succ, List.getElem_cons_zero]
            go_simp
            refine hK.out _ _ ?_
            clear hK K
            try simp only [List.getElem_toArray, List.getElem_cons_succ, List.getElem_cons_zero, Act.put, List.setIfInBounds_toArray, List.set_cons_zero, List.set_cons_succ]
            refine wpAnyM_done (by kernel_rfl) ?_ _
            have HFIN := Lib.hid (show NextT tb hi T (setMk T j a7 c7 N) w (w7.setCell ⟨x.b, 2, none⟩ (.slice a7 N.length c7)) by
              have := setm_fin HH.out HJ.out F7.out (c := c7) M7.out HFR.out
              rwa [HXE.out] at this)
            have HDR := Lib.hid (show DoR T id at' (-1) 0 (setMk T j a7 c7 N) by
              have := DoR.done (T := T) (id := id) (at' := at') (j := j) a7 c7 HJ.out (by rw [HXE.out]; exact HID.out) (by rw [HXE.out, ← HML.out]; exact HR.out) (by rw [HXE.out, HFE.out]; exact HEN.out) (by rw [HXE.out]; exact HC.out)
              rwa [HXE.out, HFE.out, HN.out] at this)
            clear y7 hHeld
            generalize w7.setCell ⟨x.b, 2, none⟩ (.slice a7 N.length c7) = w8 at *
            go_wp2_with fail
            go_ret2
            exact ⟨-1, 0, _, rfl, HDR.out, HFIN.out⟩
        · have HC := Lib.hid hC
          rw [hC] at LK
          have S8 := Lib.hid (fun W' (f : Fr [] w4 W') => ⟨cell_fr' c1 f, cell_fr' x1 f, LK.out W' f⟩ : ∀ W', Fr [] w4 W' → (W'.cell? ⟨tb, 1, none⟩ = some (.map (some T.cm)) ∧ W'.cell? ⟨x.b, 1, none⟩ = some (.int .i64 x.tp) ∧ (Instr.lookup 95 (.map (some T.cm)) (.agg #[.int .i64 x.tp, .int .i64 at']) true).run Try.prog W' = .ok (.tuple #[.agg #[.int .i64 q.of_, .int .i64 q.at_, .int .i64 q.to_, .bool q.many], .bool true]) W'))
          clear hC LK
          go_region_held_law (fun W' => W'.cell? ⟨tb, 1, none⟩ = some (.map (some T.cm)) ∧ W'.cell? ⟨x.b, 1, none⟩ = some (.int .i64 x.tp) ∧ (Instr.lookup 95 (.map (some T.cm)) (.agg #[.int .i64 x.tp, .int .i64 at']) true).run Try.prog W' = .ok (.tuple #[.agg #[.int .i64 q.of_, .int .i64 q.at_, .int .i64 q.to_, .bool q.many], .bool true]) W') (first | exact S8.out _ (((Fr.refl [] w4).drew).alloc _) | exact S8.out _ ((((Fr.refl [] w4).drew).alloc _).setCell (.inr (by simp)) _) | exact S8.out _ ((Fr.refl [] w4).drew) | go_keep) (fail)
          all_goals
            have F5 := Lib.hid ((F4.out.alloc (.cells #[.int .i64 q.of_, .int .i64 q.at_, .int .i64 q.to_, .bool q.many] 97)).drew)
            have hrq := Row.new w4 [.int .i64 q.of_, .int .i64 q.at_, .int .i64 q.to_, .bool q.many] 97
            have q2 : (w4.alloc (.cells #[.int .i64 q.of_, .int .i64 q.at_, .int .i64 q.to_, .bool q.many] 97)).drew.cell? ⟨w4.heap.size, 2, none⟩ = some (.int .i64 q.to_) := hrq.cell 2
            have q3 : (w4.alloc (.cells #[.int .i64 q.of_, .int .i64 q.at_, .int .i64 q.to_, .bool q.many] 97)).drew.cell? ⟨w4.heap.size, 3, none⟩ = some (.bool q.many) := hrq.cell 3
            clear hrq c1 x1 S8
            obtain ⟨w5, hw5⟩ : ∃ z, z = (w4.alloc (.cells #[.int .i64 q.of_, .int .i64 q.at_, .int .i64 q.to_, .bool q.many] 97)).drew := ⟨_, rfl⟩
            rw [← hw5] at F5 q2 q3 ⊢
            clear hw5
            rcases hmn : q.many with _ | _
            · rw [hmn] at q3
              have HMN := Lib.hid hmn
              clear hmn
              have C6 := kids_any tb hi T id at' w5 (HH.out.fr F5.out)
              go_wp2_with fail
              refine C6.mono ?_
              rintro e w6 ⟨vk, rfl, hk, hF6⟩
              obtain ⟨ka, kc, hvk⟩ := own_slice hk
              subst hvk
              have F6 := Lib.hid (F5.out.trans hF6 (by simp))
              have q2' := cell_fr' q2 hF6
              rw [List.length_map] at *
              obtain ⟨nk, hnk⟩ : ∃ n, n = (T.L.filter (isKid id at')).length := ⟨_, rfl⟩
              rw [← hnk]
              have HNK := Lib.hid hnk
              clear hk hF6 hnk C6 q2 q3
              by_cases hk0 : (nk : Int) > 0
              · have dk : decide (0 < nk) = true := decide_eq_true (by omega)
                have HK0 := Lib.hid hk0
                clear hk0
                go_wp2_with fail
                go_ret2
                exact ⟨0, 17, T, rfl, .hold HM.out HID.out (by rw [← HML.out]; exact HR.out) (by rw [HFE.out]; exact HEN.out) HC.out HMN.out (by have := HK0.out; rw [← HNK.out]; omega), .refl HH.out F6.out⟩
              · have dk : decide (0 < nk) = false := decide_eq_false (by omega)
                have HK0 := Lib.hid (show nk = 0 by omega)
                clear hk0
            
                have H6 := Lib.hid (HH.out.fr F6.out)
                have c2 : w6.cell? ⟨tb, 2, none⟩ = some T.v := H6.out.head.cell 2
                obtain ⟨av, cv, hv, _, _⟩ := H6.out.vform
                rw [hv] at c2
                have HWHY := Lib.hid (show q.many = true ∨ (T.L.filter (isKid id at')).length = 0 from .inr (by rw [← HNK.out]; exact HK0.out))
                obtain ⟨n, hnn⟩ : ∃ n, n = T.L.length := ⟨_, rfl⟩
                rw [← hnn] at c2
                have HNN := Lib.hid hnn
                clear hv hnn
                by_cases h40 : (n : Int) ≥ 40
                · have d40 : decide ((n : Int) ≥ 40) = true := decide_eq_true h40
                  have H40 := Lib.hid h40
                  clear h40
                  go_wp2_with fail
                  go_ret2
                  exact ⟨0, 4, T, rfl, .many HM.out HID.out (by rw [← HML.out]; exact HR.out) (by rw [HFE.out]; exact HEN.out) HC.out HWHY.out (by have := H40.out; rw [← HNN.out]; omega), .refl HH.out F6.out⟩
                · have d40 : decide ((n : Int) ≥ 40) = false := decide_eq_false h40
                  have hcl := HG.out.calls _ _ HC.out
                  have hsz : hi ≤ w6.heap.size := Nat.le_trans hhi F6.out.size
                  have C7 := Lib.hid (spawn_any tb hi T q.to_.toNat id at' _ w6 H6.out (by omega) rfl hsz HG.out.next (by rw [← HNN.out]; omega))
                  rw [show ((q.to_.toNat : Nat) : Int) = q.to_ by omega] at C7
                  have HLT := Lib.hid (show T.L.length < 40 by rw [← HNN.out]; omega)
                  clear h40 hcl hsz
                  go_wp2_with fail
                  refine C7.out.mono ?_
                  rintro e w9 ⟨rfl, v9, y9, hy9, hnx⟩
                  have HY9 := Lib.hid hy9
                  have HNX := Lib.hid (hnx.pre F6.out)
                  clear hy9 hnx C7
                  obtain ⟨nx, hnx⟩ : ∃ n, n = T.next := ⟨_, rfl⟩
                  rw [← hnx]
                  go_wp2_with fail
                  go_ret2
                  subst hnx
                  exact ⟨_, 0, _, rfl, .spawn (v := v9) (y := y9) HM.out HID.out (by rw [← HML.out]; exact HR.out) (by rw [HFE.out]; exact HEN.out) HC.out HWHY.out HLT.out HY9.out, HNX.out⟩
            · rw [hmn] at q3
              have HMN := Lib.hid hmn
              clear hmn
              have H6 := Lib.hid (HH.out.fr F5.out)
              have c2 : w5.cell? ⟨tb, 2, none⟩ = some T.v := H6.out.head.cell 2
              obtain ⟨av, cv, hv, _, _⟩ := H6.out.vform
              rw [hv] at c2
              have HWHY := Lib.hid (show q.many = true ∨ (T.L.filter (isKid id at')).length = 0 from .inl HMN.out)
              obtain ⟨n, hnn⟩ : ∃ n, n = T.L.length := ⟨_, rfl⟩
              rw [← hnn] at c2
              have HNN := Lib.hid hnn
              clear hv hnn
              by_cases h40 : (n : Int) ≥ 40
              · have d40 : decide ((n : Int) ≥ 40) = true := decide_eq_true h40
                have H40 := Lib.hid h40
                clear h40
                go_wp2_with fail
                go_ret2
                exact ⟨0, 4, T, rfl, .many HM.out HID.out (by rw [← HML.out]; exact HR.out) (by rw [HFE.out]; exact HEN.out) HC.out HWHY.out (by have := H40.out; rw [← HNN.out]; omega), .refl HH.out F5.out⟩
              · have d40 : decide ((n : Int) ≥ 40) = false := decide_eq_false h40
                have hcl := HG.out.calls _ _ HC.out
                have hsz : hi ≤ w5.heap.size := Nat.le_trans hhi F5.out.size
                have C7 := Lib.hid (spawn_any tb hi T q.to_.toNat id at' _ w5 H6.out (by omega) rfl hsz HG.out.next (by rw [← HNN.out]; omega))
                rw [show ((q.to_.toNat : Nat) : Int) = q.to_ by omega] at C7
                have HLT := Lib.hid (show T.L.length < 40 by rw [← HNN.out]; omega)
                clear h40 hcl hsz
                go_wp2_with fail
                refine C7.out.mono ?_
                rintro e w9 ⟨rfl, v9, y9, hy9, hnx⟩
                have HY9 := Lib.hid hy9
                have HNX := Lib.hid (hnx.pre F5.out)
                clear hy9 hnx C7
                obtain ⟨nx, hnx⟩ : ∃ n, n = T.next := ⟨_, rfl⟩
                rw [← hnx]
                go_wp2_with fail
                go_ret2
                subst hnx
                exact ⟨_, 0, _, rfl, .spawn (v := v9) (y := y9) HM.out HID.out (by rw [← HML.out]; exact HR.out) (by rw [HFE.out]; exact HEN.out) HC.out HWHY.out HLT.out HY9.out, HNX.out⟩
end Go.Proofs.Ytclkahggfdnpgaa
