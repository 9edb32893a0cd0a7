/- The document's heap: an item laid in its place, on plain lists; append from items that may be none. -/
import Derived.Test.YtpjmmhpkiepbmaaRH2
import Derived.Test.YtpjmmhpkiepbmaaHp13
import Derived.Deep.RegionHeldLaw
import Derived.Deep.AppendLies
import Derived.StillTailTactics
set_option linter.unusedVariables false
set_option linter.unusedSimpArgs false
namespace Go.Proofs.Ytpjmmhpkiepbmaa
open Go.RowKit
def insAt (s : Int) (L : List ItD) (x : ItD) : Nat := (L.takeWhile fun y => aheadB s y x).length
def insL (s : Int) (L : List ItD) (x : ItD) : List ItD := (L.take (insAt s L x) ++ [x]) ++ L.drop (insAt s L x)
theorem insAt_eq {s : Int} {x : ItD} : ∀ {L : List ItD} {j : Nat}, j ≤ L.length → (∀ q, q < j → aheadB s (L.getD q default) x = true) → (j < L.length → aheadB s (L.getD j default) x = false) → insAt s L x = j := by
  intro L
  induction L with
  | nil => intro j hj _ _; simp at hj; subst hj; rfl
  | cons y L ih =>
    intro j hj h1 h2
    cases j with
    | zero =>
      have := h2 (by simp)
      unfold insAt
      rw [List.takeWhile_cons_of_neg (by simpa using this)]
      rfl
    | succ j =>
      have h0 := h1 0 (by omega)
      have h3 := ih (j := j) (by simpa using hj) (fun q hq => by have := h1 (q + 1) (by omega); simpa using this) (fun hl => by have := h2 (by simpa using hl); simpa using this)
      unfold insAt at h3 ⊢
      rw [List.takeWhile_cons_of_pos (by simpa using h0), List.length_cons, h3]
theorem insAt_le (s : Int) (L : List ItD) (x : ItD) : insAt s L x ≤ L.length := (List.takeWhile_sublist _).length_le
theorem insL_perm (s : Int) (L : List ItD) (x : ItD) : (insL s L x).Perm (x :: L) := by
  unfold insL
  rw [List.append_assoc]
  show (L.take (insAt s L x) ++ x :: L.drop (insAt s L x)).Perm (x :: L)
  refine (List.perm_middle (a := x) (l₁ := L.take (insAt s L x)) (l₂ := L.drop (insAt s L x))).trans ?_
  rw [List.take_append_drop]
theorem tw_all {α : Type} (p : α → Bool) : ∀ (L : List α) (y : α), y ∈ L.takeWhile p → p y = true := by
  intro L
  induction L with
  | nil => intro y hy; cases hy
  | cons z L ih =>
    intro y hy
    cases hz : p z with
    | false => rw [List.takeWhile_cons_of_neg (by rw [hz]; simp)] at hy; cases hy
    | true =>
      rw [List.takeWhile_cons_of_pos hz] at hy
      rcases List.mem_cons.1 hy with rfl | hy
      · exact hz
      · exact ih y hy
theorem insL_take (s : Int) (L : List ItD) (x : ItD) : ∀ y ∈ L.take (insAt s L x), aheadB s y x = true := by
  intro y hy
  have e : L.take (insAt s L x) = L.takeWhile fun y => aheadB s y x := by
    have := List.takeWhile_prefix (l := L) (fun y => aheadB s y x)
    exact (List.prefix_iff_eq_take.1 this).symm
  rw [e] at hy
  exact tw_all _ L y hy
theorem insL_drop {s : Int} {L : List ItD} (x : ItD) (h : Srt s L) : ∀ y ∈ L.drop (insAt s L x), aheadB s y x = false := by
  induction L with
  | nil => intro y hy; simp at hy
  | cons z L ih =>
    unfold Srt at h
    rw [List.pairwise_cons] at h
    intro y hy
    by_cases hz : aheadB s z x = true
    · have e : insAt s (z :: L) x = insAt s L x + 1 := by unfold insAt; rw [List.takeWhile_cons_of_pos (by simpa using hz), List.length_cons]
      rw [e, List.drop_succ_cons] at hy
      exact ih h.2 y hy
    · have hz' : aheadB s z x = false := by simpa using hz
      have e : insAt s (z :: L) x = 0 := by unfold insAt; rw [List.takeWhile_cons_of_neg (by simpa using hz')]; rfl
      rw [e, List.drop_zero] at hy
      rcases List.mem_cons.1 hy with rfl | hy
      · exact hz'
      · exact na_trans (h.1 y hy) hz'
theorem insL_srt {s : Int} {L : List ItD} (x : ItD) (h : Srt s L) : Srt s (insL s L x) := by
  have h1 := insL_take s L x
  have h2 := insL_drop x h
  have h3 : Srt s (L.take (insAt s L x) ++ L.drop (insAt s L x)) := by rw [List.take_append_drop]; exact h
  unfold insL
  unfold Srt at *
  rw [List.pairwise_append] at h3 ⊢
  rw [List.pairwise_append]
  refine ⟨⟨h3.1, List.pairwise_singleton _ _, fun a ha c hc => ?_⟩, h3.2.1, fun a ha c hc => ?_⟩
  · rw [List.mem_singleton] at hc
    subst hc
    exact ahead_asymm (h1 a ha)
  · rcases List.mem_append.1 ha with ha | ha
    · exact h3.2.2 a ha c hc
    · rw [List.mem_singleton] at ha
      subst ha
      exact h2 c hc
def rputL (s : Int) (L : List ItD) (x : ItD) : List ItD := if putE L x = 0 then insL s L x else L
def rrmL (L : List ItD) (id : Int) : List ItD := if hasI L id = true then L.take (atI L id) ++ L.drop (atI L id + 1) else L
theorem rrm_perm {L : List ItD} {i : Nat} (hi : i < L.length) : (L.getD i default :: (L.take i ++ L.drop (i + 1))).Perm L := by
  have e : L.getD i default = L[i] := getD_lt L i hi
  rw [e]
  refine List.perm_middle.symm.trans ?_
  rw [← List.drop_eq_getElem_cons hi, List.take_append_drop]
theorem rrm_srt {s : Int} {L : List ItD} {i : Nat} (h : Srt s L) : Srt s (L.take i ++ L.drop (i + 1)) := by
  have h3 : Srt s (L.take i ++ L.drop i) := by rw [List.take_append_drop]; exact h
  unfold Srt at *
  rw [List.pairwise_append] at h3 ⊢
  have hs : ∀ c, c ∈ L.drop (i + 1) → c ∈ L.drop i := fun c hc => by
    rw [← List.drop_drop] at hc
    exact List.mem_of_mem_drop hc
  refine ⟨h3.1, ?_, fun a ha c hc => h3.2.2 a ha c (hs c hc)⟩
  rw [← List.drop_drop]
  exact h3.2.1.sublist (List.drop_sublist _ _)
theorem rrmL_perm {L : List ItD} {id : Int} (h : hasI L id = true) : (remX L id :: rrmL L id).Perm L := by
  unfold rrmL remX
  rw [if_pos h, if_pos h]
  exact rrm_perm (atI_spec h).1
theorem rrmL_same {L : List ItD} {id : Int} (h : hasI L id = false) : rrmL L id = L := by
  unfold rrmL; rw [if_neg (by rw [h]; simp)]
theorem rputL_same {s : Int} {L : List ItD} {x : ItD} (h : putE L x ≠ 0) : rputL s L x = L := by
  unfold rputL; rw [if_neg h]
theorem rputL_perm {s : Int} {L : List ItD} {x : ItD} (h : putE L x = 0) : (rputL s L x).Perm (x :: L) := by
  unfold rputL; rw [if_pos h]; exact insL_perm s L x
theorem rputL_srt {s : Int} {L : List ItD} {x : ItD} (h : Srt s L) : Srt s (rputL s L x) := by
  unfold rputL
  split
  · exact insL_srt x h
  · exact h
theorem rrmL_srt {s : Int} {L : List ItD} {id : Int} (h : Srt s L) : Srt s (rrmL L id) := by
  unfold rrmL
  split
  · exact rrm_srt h
  · exact h
/-- Good hangs on the members alone. -/
theorem good_perm {s : Int} {A B : List ItD} (p : A.Perm B) (h : Good s A) : Good s B :=
  ⟨h.step, fun x hx => h.ok x (p.mem_iff.2 hx), fun x hx => h.ids x (p.mem_iff.2 hx), idsNd_iff.2 ((p.map (·.id)).nodup_iff.1 (idsNd_iff.1 h.nd)), by rw [← p.length_eq]; exact h.few⟩
/-- Of two lists of the same items, the document's in order: what they answer. -/
structure Like (s : Int) (A R : List ItD) : Prop where
  p : A.Perm R
  ga : Good s A
  oa : HeapO s A
  sr : Srt s R
theorem Like.gr {s : Int} {A R : List ItD} (h : Like s A R) : Good s R := good_perm h.p h.ga
theorem Like.len {s : Int} {A R : List ItD} (h : Like s A R) : A.length = R.length := h.p.length_eq
theorem Like.has {s : Int} {A R : List ItD} (h : Like s A R) (id : Int) : hasI A id = hasI R id := hasI_perm h.p id
theorem Like.putE {s : Int} {A R : List ItD} (h : Like s A R) (x : ItD) : putE A x = putE R x := by
  unfold Go.Proofs.Ytpjmmhpkiepbmaa.putE
  rw [h.has, h.len]
theorem Like.top {s : Int} {A R : List ItD} (h : Like s A R) : topX A = topX R ∧ nonB A = nonB R := by
  refine ⟨?_, by unfold nonB; rw [h.len]⟩
  by_cases h0 : 0 < A.length
  · have hr : 0 < R.length := by rw [← h.len]; exact h0
    have ma : topX A ∈ A := getD_mem A 0 h0
    have mr : topX R ∈ R := getD_mem R 0 hr
    obtain ⟨j, hj, hx⟩ := List.getElem_of_mem (h.p.mem_iff.2 mr)
    have h1 := heap_first h.oa j hj
    rw [show gI A j = topX R by rw [← hx]; exact getD_lt A j hj] at h1
    have h2 : aheadB s (topX A) (topX R) = false := by
      have hm := h.p.mem_iff.1 ma
      cases hR : R with
      | nil => rw [hR] at hr; simp at hr
      | cons y T =>
        rw [hR] at hm
        have hs := h.sr
        rw [hR] at hs
        unfold Srt at hs
        rw [List.pairwise_cons] at hs
        rcases List.mem_cons.1 hm with he | hm
        · rw [he]; exact ahead_irr s _
        · exact hs.1 _ hm
    exact idsNd_eq h.gr.nd (h.p.mem_iff.1 ma) mr (ahead_both h2 h1)
  · have e1 : A = [] := List.eq_nil_of_length_eq_zero (by omega)
    have e2 : R = [] := List.eq_nil_of_length_eq_zero (by rw [← h.len]; omega)
    rw [e1, e2]
theorem Like.rem {s : Int} {A R : List ItD} (h : Like s A R) (id : Int) : remX A id = remX R id := by
  have hh := h.has id
  cases ha : hasI A id with
  | false =>
    unfold remX
    rw [← hh, ha]
    rfl
  | true =>
    have hr : hasI R id = true := by rw [← hh]; exact ha
    obtain ⟨h1, h2⟩ := atI_spec ha
    obtain ⟨h3, h4⟩ := atI_spec hr
    unfold remX
    rw [if_pos ha, if_pos hr]
    exact idsNd_eq h.gr.nd (h.p.mem_iff.1 (getD_mem A _ h1)) (getD_mem R _ h3) (h2.trans h4.symm)
theorem weightAt_rem {s : Int} {L : List ItD} (hg : Good s L) (id now : Int) : weightAt s L id now = if hasI L id = true then (remX L id).base * s + clampN now - (remX L id).since else 0 := by
  cases hh : hasI L id with
  | false =>
    unfold weightAt
    cases hp : posM L id with
    | none => simp
    | some q => unfold hasI at hh; rw [hp] at hh; cases hh
  | true =>
    obtain ⟨hj, hjx⟩ := atI_spec hh
    have h1 := posM_some hg.nd hj hjx
    unfold weightAt remX
    rw [h1, hh]
    rfl
theorem Like.weight {s : Int} {A R : List ItD} (h : Like s A R) (id now : Int) : weightAt s A id now = weightAt s R id now := by
  rw [weightAt_rem h.ga, weightAt_rem h.gr, h.has, h.rem]
theorem Like.put {s : Int} {A R : List ItD} (h : Like s A R) (x : ItD) (hid : inI x.id) : Like s (putL s A x) (rputL s R x) := by
  refine ⟨?_, putL_good h.ga hid, putL_ord h.oa, rputL_srt h.sr⟩
  have he := h.putE x
  by_cases h0 : Go.Proofs.Ytpjmmhpkiepbmaa.putE A x = 0
  · exact (putL_perm h0).trans ((h.p.cons x).trans (rputL_perm (he ▸ h0)).symm)
  · rw [putL_same h0, rputL_same (he ▸ h0)]; exact h.p
theorem Like.rm {s : Int} {A R : List ItD} (h : Like s A R) (id : Int) : Like s (rmL s A id) (rrmL R id) := by
  refine ⟨?_, rmL_good h.ga, rmL_ord h.oa, rrmL_srt h.sr⟩
  have hh := h.has id
  cases ha : hasI A id with
  | false => rw [rmL_same ha, rrmL_same (hh ▸ ha)]; exact h.p
  | true =>
    have h1 := rmL_perm (s := s) ha
    have h2 := rrmL_perm (L := R) (id := id) (hh ▸ ha)
    rw [h.rem id] at h1
    exact (h1.trans (h.p.trans h2.symm)).cons_inv
theorem Like.pop {s : Int} {A R : List ItD} (h : Like s A R) (h0 : 0 < A.length) : Like s (popL s A) (rrmL R (topX R).id) := by
  refine ⟨?_, popL_good h.ga, popL_ord h.oa, rrmL_srt h.sr⟩
  have hr : 0 < R.length := by rw [← h.len]; exact h0
  have hh : hasI R (topX R).id = true := hasI_true.2 ⟨_, getD_mem R 0 hr, rfl⟩
  have h1 := popL_perm (s := s) h0
  have h2 := rrmL_perm hh
  have h3 : remX R (topX R).id = topX R := by
    obtain ⟨h5, h6⟩ := atI_spec hh
    unfold remX
    rw [if_pos hh]
    exact idsNd_eq h.gr.nd (getD_mem R _ h5) (getD_mem R 0 hr) h6
  rw [h.top.1] at h1
  rw [h3] at h2
  exact (h1.trans (h.p.trans h2.symm)).cons_inv
theorem like_nil {s : Int} (h : stepOk s) : Like s [] [] := ⟨List.Perm.refl _, (heapS_nil s h).1, (heapS_nil s h).2, List.Pairwise.nil⟩
theorem Like.list {s : Int} {A R D : List ItD} (h : Like s A R) (p : D.Perm A) (sd : Srt s D) : D = R :=
  srt_unique (fun x hx y hy he => idsNd_eq h.ga.nd (p.mem_iff.1 hx) (p.mem_iff.1 hy) he) (p.trans h.p) sd h.sr
theorem infoR : (Try.prog.info? 37).map (fun i => (i.zero, i.size, i.bytes)) = some (some (.agg #[.int .i64 0, .int .i64 0, .int .i64 0]), 3, 24) := by kernel_rfl
theorem fr_grown {w w' : World} {v : Value} (h : w.grownBy w' v.ownBlock) : Fr v.ownBlock.toList w w' := Fr.of_grown h _ (fun k hk => .inl (by rw [hk]; simp))
theorem fr_grown1 {w w' : World} {g n c : Nat} (h : w.grownBy w' (Value.ownBlock (.slice (some ⟨g, 0, none⟩) n c))) : Fr [g] w w' := fr_grown h
theorem own_low {w : World} {base base' : Nat} {e : TypeId} {size n : Nat} {v : Value} {xs : List Value} (h : w.ownsRow base e size v n xs) (hb : base' ≤ base) : w.ownsRow base' e size v n xs := by
  refine ⟨h.1, ?_⟩
  rcases h.2 with h1 | ⟨g, cap, cur, hv, hgb, r⟩
  · exact .inl h1
  · exact .inr ⟨g, cap, cur, hv, Nat.le_trans hb hgb, r⟩
/-- append of items onto a row of the call's own, whatever the source. -/
theorem step_append_its {ops : Array Oper} {o : Oper} {a : Act} {w : World} {K : Act → World → Prop} {Q : Exit → Act → World → Prop} {F : Prop} (hgd : o.guard = none) (s x : Operand)
    (ho : o.op = .call { callee := .builtin .append, args := #[s, x], argTypes := #[47, 47] }) (base : Nat) (v : Value) (A : List ItD) (hs : a.eval s = v) (hown : w.ownsRow base 37 3 v A.length (icells A))
    (ad : Option Addr) (m c : Nat) (B : List ItD) (hx : a.eval x = .slice ad m c) (hB : ItemsAt w ad m B) (few : A.length + m ≤ 3000) (hbase : base ≤ w.heap.size)
    (h : ∀ v' w', w'.ownsRow base 37 3 v' (A ++ B).length (icells (A ++ B)) → w.grownBy w' v.ownBlock → (v'.ownBlock = v.ownBlock ∨ v'.ownBlock = some w.heap.size) → K (a.put o.dst v') w') :
    if Region.wanted o (yielded ops a.tmps) = true then Oper.wp Try.prog o a w K Q else F := by
  have hw : Region.wanted o (yielded ops a.tmps) = true := by simp [Region.wanted, hgd]
  rw [if_pos hw]
  obtain ⟨i0, hi, hz0, hz1, hz2⟩ := info_parts infoR
  have hrun : ∃ v' w', (Builtin.append_ #[47, 47] o.type #[v, .slice ad m c]).run Try.prog w = .ok v' w' ∧ w'.ownsRow base 37 3 v' (A ++ B).length (icells (A ++ B)) ∧ w.grownBy w' v.ownBlock ∧ (v'.ownBlock = v.ownBlock ∨ v'.ownBlock = some w.heap.size) := by
    rw [List.length_append, hB.len, icells_append]
    cases ad with
    | some ad =>
      have hcells : ∀ j u, (icells B)[j]? = some u → w.cell? (ad.add j) = some u := by
        intro j u hu
        have h0 : 0 < m := by
          rw [← hB.len]
          have := (List.getElem?_eq_some_iff.1 hu).1
          rw [icells_length] at this
          omega
        obtain ⟨g, o', he, hc⟩ := hB.at_ h0
        cases he
        rw [Addr_add]
        exact hc j u hu
      obtain ⟨v', w', h1, h2, h3, _, h5⟩ := run_append_own_at (P := Try.prog) w base 47 o.type 37 i0 _ 3 24 Try.underlying47 hi hz0 hz1 hz2 rfl (by decide) v A.length (icells A) hown ad m c (icells B) (by rw [icells_length, hB.len]) hcells (icells_one B) (by unfold maxLen; omega) (by omega) hbase
      exact ⟨v', w', h1, h2, h3, h5⟩
    | none =>
      have hm : m = 0 := by
        rcases Nat.eq_zero_or_pos m with h0 | h0
        · exact h0
        · obtain ⟨g, o', he, _⟩ := hB.at_ h0; cases he
      subst hm
      have hnil : B = [] := List.eq_nil_of_length_eq_zero hB.len
      subst hnil
      refine ⟨v, w, ?_, by simpa [icells] using hown, World.grownBy.refl w _, .inl rfl⟩
      rcases hown.2 with ⟨rfl, h0⟩ | ⟨g, cap, cur, rfl, _, _, hnc, _⟩
      · simp [Builtin.append_, run_underlying Try.underlying47, sizeOf, typeInfo, hi, Builtin.lenOf, Builtin.firstCells]
      · simp [Builtin.append_, run_underlying Try.underlying47, sizeOf, typeInfo, hi, Builtin.lenOf, Builtin.firstCells, hnc, storeCells]
  obtain ⟨v', w', hr, h2, h3, h4⟩ := hrun
  unfold Oper.wp execOp
  simp only [ho, resolve, invoke, builtin, Sem.run_bind, Sem.run_pure, Result.andThen_ok, List.map_toArray, List.map_cons, List.map_nil, hs, hx, hr]
  exact h v' w' h2 h3 h4
/-- A list cut in two: what the two slices are, and what lies in them. -/
theorem rh_cut {w : World} {b base : Nat} {s : Int} {L : List ItD} {a : Option Addr} {c j : Nat} (h : RhAt w b base s L (.slice a L.length c)) (hj : j ≤ L.length) :
    ∃ A2, (∀ w', (Instr.slice 47 (.slice a L.length c) none (some (.int .i64 (j : Int))) none).run Try.prog w' = .ok (.slice a j c) w') ∧
      (∀ w', (Instr.slice 47 (.slice a L.length c) (some (.int .i64 (j : Int))) none none).run Try.prog w' = .ok (.slice A2 (L.length - j) (c - j)) w') ∧
      (∀ w', Fr [] w w' → ItemsAt w' a j (L.take j)) ∧ ∀ w', Fr [] w w' → ItemsAt w' A2 (L.length - j) (L.drop j) := by
  have hc : L.length ≤ c := by
    rcases h.row.2 with ⟨hv, _⟩ | ⟨g, cap, cur, hv, _, _, hn, _⟩
    · injection hv with e1 e2 e3; omega
    · injection hv with e1 e2 e3; omega
  refine ⟨if c = j then a else a.map (·.add (j * 3)), fun w' => ?_, fun w' => ?_, fun w' f => ?_, fun w' f => ?_⟩
  · have h0 : a.map (·.add 0) = a := by cases a <;> simp [Addr.add]
    simp [Instr.slice, run_underlying Try.underlying47, Instr.sliceBounds, Instr.sliceBound, asIntOf, Try.sizeOf37, show j ≤ c by omega, h0]
  · simp [Instr.slice, run_underlying Try.underlying47, Instr.sliceBounds, Instr.sliceBound, asIntOf, Try.sizeOf37, hj]
  · refine ⟨by rw [List.length_take]; omega, fun h0 => ?_⟩
    obtain ⟨g, cap, C, hv, _, _, hR⟩ := own_row37 h.row (by omega)
    cases hv
    refine ⟨g, 0, rfl, fun i u hu => ?_⟩
    have hi := (List.getElem?_eq_some_iff.1 hu).1
    rw [icells_length, List.length_take] at hi
    rw [Nat.zero_add, (hR.fr f (by simp)).cell, List.getElem?_append_left (by rw [icells_length]; omega), ← hu]
    conv => lhs; rw [← List.take_append_drop j L, icells_append]
    rw [List.getElem?_append_left (by rw [icells_length, List.length_take]; omega)]
  · refine ⟨List.length_drop, fun h0 => ?_⟩
    obtain ⟨g, cap, C, hv, _, _, hR⟩ := own_row37 h.row (by omega)
    cases hv
    rw [if_neg (by omega)]
    refine ⟨g, j * 3, by rw [Option.map_some, Addr_add, Nat.zero_add], fun i u hu => ?_⟩
    have hi := (List.getElem?_eq_some_iff.1 hu).1
    rw [icells_length, List.length_drop] at hi
    rw [(hR.fr f (by simp)).cell, List.getElem?_append_left (by rw [icells_length]; omega), ← hu]
    conv => lhs; rw [← List.take_append_drop j L, icells_append]
    rw [List.getElem?_append_right (by rw [icells_length, List.length_take]; omega), icells_length, List.length_take, Nat.min_eq_left hj]
    congr 1
    omega
end Go.Proofs.Ytpjmmhpkiepbmaa
