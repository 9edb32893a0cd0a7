/- Parts of the proof: TrP, Tr17. (Merged by pack.py.) -/
import Derived.Test.YtclkahggfdnpgaaDz12
import Derived.Test.YtclkahggfdnpgaaDz13
set_option linter.unusedVariables false
set_option linter.unusedSimpArgs false
namespace Go.Proofs.Ytclkahggfdnpgaa
open Go.RowKit
/-- A graph without its places. -/
def FlatD.nrm (f : FlatD) : FlatD := ⟨none, f.en, 0, none, f.tn, 0, f.E, f.T⟩
/-- An instance without its places. -/
structure PI where
  id : Int
  tp : Nat
  m : List MarkD
  par : Int
  ev : Int
deriving Inhabited, DecidableEq
/-- A tree without its places. -/
structure PT where
  Fs : List FlatD
  C : Int × Int → Option CallD
  L : List PI
  next : Nat
def InsD.pi (x : InsD) : PI := ⟨x.id, x.tp, x.m, x.par, x.ev⟩
def TreeD.pl (T : TreeD) : PT := ⟨T.Fs.map FlatD.nrm, T.C, T.L.map InsD.pi, T.next⟩
def PT.f (P : PT) (x : PI) : FlatD := P.Fs.getD x.tp default
def PT.of (P : PT) (id : Int) : Option PI := P.L.find? (fun x => decide (x.id = id))
def PI.kid (id at' : Int) (x : PI) : Bool := decide (x.par = id) && decide (id ≥ 0) && (decide (at' < 0) || decide (x.ev = at'))
def PT.kids (P : PT) (id at' : Int) : List PI := P.L.filter (PI.kid id at')
def PI.setm (id : Int) (M : List MarkD) (y : PI) : PI := if y.id = id then { y with m := M } else y
def PT.setm (P : PT) (id : Int) (M : List MarkD) : PT := { P with L := P.L.map (PI.setm id M) }
def doF (P : PT) (id at' : Int) : Int × Int × PT :=
  match P.of id with
  | none => (0, 10, P)
  | some x =>
    if hasP at' x.m.length then
      if enabB (P.f x) x.m at' then
        match P.C ((x.tp : Int), at') with
        | none => (-1, 0, P.setm id (doM (P.f x) x.m at'.toNat))
        | some q =>
          if q.many = false ∧ 0 < (P.kids id at').length then (0, 17, P)
          else if 40 ≤ P.L.length then (0, 4, P)
          else (P.next, 0, { P with L := P.L ++ [⟨P.next, q.to_.toNat, (P.Fs.getD q.to_.toNat default).E.map startM, id, at'⟩], next := P.next + 1 })
      else (0, 11, P)
    else (0, 3, P)
def endF (P : PT) (id : Int) : Int × PT :=
  match P.of id with
  | none => (10, P)
  | some x =>
    if id = 0 then (1, P)
    else if 0 < (P.kids id (-1)).length then (17, P)
    else if accB (P.f x).en x.m then
      match P.of x.par with
      | none => (0, P)
      | some y => if doE (P.f y) y.m x.ev = 0 then (0, { P with L := (P.L.map (PI.setm y.id (doM (P.f y) y.m x.ev.toNat))).filter (fun z => decide (z.id ≠ id)) }) else (doE (P.f y) y.m x.ev, P)
    else (11, P)
def PT.slack (P : PT) : Int := P.L.foldl (fun n x => min n (slackI (P.f x).en x.m)) 1048576
def PI.tick (x : PI) : PI := { x with m := x.m.map tickM }
def tickF (P : PT) : Int × PT := if P.slack < 1 then (13, P) else (0, { P with L := P.L.map PI.tick })
def actF (P : PT) (k id at' : Int) : Int × Int × PT :=
  if k = 0 ∨ k = 1 then doF P id at' else if k = 2 then (-1, endF P id) else if k = 3 then (-1, tickF P) else (-1, 0, P)
structure GoodP (P : PT) (n : Nat) : Prop where
  tp : ∀ x ∈ P.L, x.tp < P.Fs.length
  fit : ∀ x ∈ P.L, fitsB (P.f x).en x.m = true
  en : ∀ f ∈ P.Fs, f.en ≤ 10
  el : ∀ f ∈ P.Fs, f.E.length = f.en
  srt : (P.L.map (·.id)).Pairwise (· < ·)
  lo : ∀ x ∈ P.L, 0 ≤ x.id ∧ x.id < P.next
  root : ∃ x r, P.L = x :: r ∧ x.id = 0 ∧ x.par = -1 ∧ x.ev = -1 ∧ x.tp = 0
  par : ∀ x ∈ P.L, x.id ≠ 0 → 0 ≤ x.par ∧ x.par < x.id ∧ 0 ≤ x.ev ∧ ∃ y ∈ P.L, y.id = x.par ∧ ∃ c, P.C ((y.tp : Int), x.ev) = some c ∧ c.to_ = x.tp
  calls : ∀ k c, P.C k = some c → k = (c.of_, c.at_) ∧ 0 ≤ c.of_ ∧ c.of_ < c.to_ ∧ c.to_ < P.Fs.length ∧ 0 ≤ c.at_
  tmpls : P.Fs.length ≤ 8
  len : P.L.length ≤ 40
  next : P.next ≤ n
theorem getD_nrm (Fs : List FlatD) (i : Nat) : (Fs.map FlatD.nrm).getD i default = (Fs.getD i default).nrm := by
  simp only [List.getD_eq_getElem?_getD, List.getElem?_map]
  cases Fs[i]? <;> rfl
theorem pl_f (T : TreeD) (x : InsD) : T.pl.f x.pi = (T.Fs.getD x.tp default).nrm := getD_nrm _ _
theorem GoodP.good {T : TreeD} {n : Nat} (g : GoodP T.pl n) (hn : n ≤ 900) : Good T := by
  have mem : ∀ {x : InsD}, x ∈ T.L → x.pi ∈ T.pl.L := fun h => List.mem_map.2 ⟨_, h, rfl⟩
  refine ⟨fun x hx => ?_, fun x hx => ?_, fun f hf => ?_, ?_, fun x hx => g.lo _ (mem hx), ?_, fun x hx h0 => ?_, ?_, ?_, ?_⟩
  · have := g.tp _ (mem hx)
    simpa [TreeD.pl, InsD.pi] using this
  · have := g.fit _ (mem hx)
    rw [pl_f] at this
    exact this
  · exact g.en f.nrm (List.mem_map.2 ⟨f, hf, rfl⟩)
  · have := g.srt
    simp only [TreeD.pl, List.map_map] at this
    exact this
  · obtain ⟨x, r, hL, h1⟩ := g.root
    rcases hT : T.L with _ | ⟨y, s⟩
    · simp [TreeD.pl, hT] at hL
    · simp only [TreeD.pl, hT, List.map_cons, List.cons.injEq] at hL
      obtain ⟨rfl, _⟩ := hL
      exact ⟨y, s, rfl, h1⟩
  · obtain ⟨h1, h2, h3, y, hy, h4⟩ := g.par _ (mem hx) h0
    obtain ⟨z, hz, rfl⟩ := List.mem_map.1 hy
    exact ⟨h1, h2, h3, z, hz, h4⟩
  · have := g.calls
    simpa [TreeD.pl] using this
  · have := g.tmpls
    simpa [TreeD.pl] using this
  · have := g.next
    exact Nat.le_trans this hn
theorem srt_uniq {L : List PI} (hs : (L.map (·.id)).Pairwise (· < ·)) {x y : PI} (hx : x ∈ L) (hy : y ∈ L) (he : x.id = y.id) : x = y := by
  induction L with
  | nil => cases hx
  | cons z L ih =>
    rw [List.map_cons, List.pairwise_cons] at hs
    rcases List.mem_cons.1 hx with rfl | hx' <;> rcases List.mem_cons.1 hy with rfl | hy'
    · rfl
    · have := hs.1 y.id (List.mem_map.2 ⟨y, hy', rfl⟩); omega
    · have := hs.1 x.id (List.mem_map.2 ⟨x, hx', rfl⟩); omega
    · exact ih hs.2 hx' hy'
theorem of_mem {P : PT} {id : Int} {x : PI} (h : P.of id = some x) : x ∈ P.L ∧ x.id = id := by
  have h1 := List.mem_of_find?_eq_some h
  have h2 := List.find?_some h
  exact ⟨h1, by simpa using h2⟩
theorem of_none {P : PT} {id : Int} : P.of id = none ↔ ∀ x ∈ P.L, x.id ≠ id := by
  unfold PT.of
  rw [List.find?_eq_none]
  simp
theorem of_some {P : PT} {x : PI} (hs : (P.L.map (·.id)).Pairwise (· < ·)) (hx : x ∈ P.L) : P.of x.id = some x := by
  rcases h : P.of x.id with _ | y
  · exact absurd rfl (of_none.1 h x hx)
  · obtain ⟨h1, h2⟩ := of_mem h
    rw [srt_uniq hs h1 hx h2]
/-- Other markings that fit. -/
theorem GoodP.mapL {P : PT} {n : Nat} (g : GoodP P n) (h : PI → PI) (hh : ∀ x, (h x).id = x.id ∧ (h x).tp = x.tp ∧ (h x).par = x.par ∧ (h x).ev = x.ev) (hf : ∀ x ∈ P.L, fitsB (P.f x).en (h x).m = true) : GoodP { P with L := P.L.map h } n := by
  refine ⟨fun x hx => ?_, fun x hx => ?_, g.en, g.el, ?_, fun x hx => ?_, ?_, fun x hx h0 => ?_, g.calls, g.tmpls, by simpa using g.len, g.next⟩
  · obtain ⟨y, hy, rfl⟩ := List.mem_map.1 hx
    rw [(hh y).2.1]
    exact g.tp y hy
  · obtain ⟨y, hy, rfl⟩ := List.mem_map.1 hx
    unfold PT.f
    rw [(hh y).2.1]
    exact hf y hy
  · have e : (P.L.map h).map (·.id) = P.L.map (·.id) := by
      rw [List.map_map]
      apply List.map_congr_left
      intro x _
      exact (hh x).1
    show ((P.L.map h).map (·.id)).Pairwise (· < ·)
    rw [e]
    exact g.srt
  · obtain ⟨y, hy, rfl⟩ := List.mem_map.1 hx
    rw [(hh y).1]
    exact g.lo y hy
  · obtain ⟨x, r, hL, h1, h2, h3, h4⟩ := g.root
    refine ⟨h x, r.map h, ?_, by rw [(hh x).1, h1], by rw [(hh x).2.2.1, h2], by rw [(hh x).2.2.2, h3], by rw [(hh x).2.1, h4]⟩
    show P.L.map h = _
    rw [hL]; rfl
  · obtain ⟨y, hy, rfl⟩ := List.mem_map.1 hx
    rw [(hh y).1] at h0
    obtain ⟨h1, h2, h3, z, hz, h4, c, h5, h6⟩ := g.par y hy h0
    rw [(hh y).2.2.1, (hh y).2.2.2, (hh y).1, (hh y).2.1]
    exact ⟨h1, h2, h3, h z, List.mem_map.2 ⟨z, hz, rfl⟩, by rw [(hh z).1, h4], c, by rw [(hh z).2.1]; exact h5, h6⟩
theorem setm_same (id : Int) (M : List MarkD) (x : PI) : (x.setm id M).id = x.id ∧ (x.setm id M).tp = x.tp ∧ (x.setm id M).par = x.par ∧ (x.setm id M).ev = x.ev := by
  unfold PI.setm
  split <;> exact ⟨rfl, rfl, rfl, rfl⟩
theorem GoodP.setm {P : PT} {n : Nat} (g : GoodP P n) {x : PI} (hx : x ∈ P.L) {M : List MarkD} (hM : fitsB (P.f x).en M = true) : GoodP (P.setm x.id M) n := by
  refine g.mapL _ (setm_same _ _) (fun y hy => ?_)
  unfold PI.setm
  split
  · rename_i he
    have := srt_uniq g.srt hy hx he
    rw [this]
    exact hM
  · exact g.fit y hy
theorem GoodP.mono {P : PT} {n m : Nat} (g : GoodP P n) (h : n ≤ m) : GoodP P m := ⟨g.tp, g.fit, g.en, g.el, g.srt, g.lo, g.root, g.par, g.calls, g.tmpls, g.len, Nat.le_trans g.next h⟩
theorem GoodP.drop {P : PT} {n : Nat} (g : GoodP P n) {id : Int} (h0 : id ≠ 0) (hk : ∀ z ∈ P.L, z.par ≠ id) : GoodP { P with L := P.L.filter (fun z => decide (z.id ≠ id)) } n := by
  have mem : ∀ {x : PI}, x ∈ P.L.filter (fun z => decide (z.id ≠ id)) → x ∈ P.L ∧ x.id ≠ id := fun h => by simpa using List.mem_filter.1 h
  refine ⟨fun x hx => g.tp x (mem hx).1, fun x hx => g.fit x (mem hx).1, g.en, g.el, ?_, fun x hx => g.lo x (mem hx).1, ?_, fun x hx hx0 => ?_, g.calls, g.tmpls, ?_, g.next⟩
  · exact List.Pairwise.sublist (List.Sublist.map _ List.filter_sublist) g.srt
  · obtain ⟨x, r, hL, h1, h2⟩ := g.root
    refine ⟨x, r.filter (fun z => decide (z.id ≠ id)), ?_, h1, h2⟩
    show P.L.filter _ = _
    rw [hL, List.filter_cons, if_pos (by rw [decide_eq_true_iff]; omega)]
  · obtain ⟨hxP, hxi⟩ := mem hx
    obtain ⟨a1, a2, a3, y, hy, hyi, r⟩ := g.par x hxP hx0
    exact ⟨a1, a2, a3, y, List.mem_filter.2 ⟨hy, by have := hk x hxP; simp; omega⟩, hyi, r⟩
  · have := List.length_filter_le (fun z : PI => decide (z.id ≠ id)) P.L
    have := g.len
    show (P.L.filter _).length ≤ 40
    omega
theorem GoodP.doF {P : PT} {n : Nat} (g : GoodP P n) (id at' : Int) : GoodP (doF P id at').2.2 (n + 1) := by
  have g1 := g.mono (Nat.le_succ n)
  unfold Go.Proofs.Ytclkahggfdnpgaa.doF
  rcases h : P.of id with _ | x
  · exact g1
  obtain ⟨hx, hid⟩ := of_mem h
  simp only
  split
  · rename_i hr
    split
    · rename_i he
      rcases hC : P.C ((x.tp : Int), at') with _ | q
      · simp only
        rw [← hid]
        exact g1.setm hx (do_fits _ _ _ (g.fit x hx))
      · simp only
        obtain ⟨c1, c2, c3, c4, c5⟩ := g.calls _ _ hC
        simp only [Prod.mk.injEq] at c1
        have hto : q.to_.toNat < P.Fs.length := by omega
        have hFm : P.Fs.getD q.to_.toNat default ∈ P.Fs := getD_memD _ _ hto
        split
        · exact g1
        · split
          · exact g1
          · rename_i h40
            have hlo := g.lo x hx
            refine ⟨fun y hy => ?_, fun y hy => ?_, g.en, g.el, ?_, fun y hy => ?_, ?_, fun y hy h0 => ?_, g.calls, g.tmpls, ?_, ?_⟩
            · rcases List.mem_append.1 hy with hy | hy
              · exact g.tp y hy
              · obtain rfl := List.mem_singleton.1 hy
                exact hto
            · rcases List.mem_append.1 hy with hy | hy
              · exact g.fit y hy
              · obtain rfl := List.mem_singleton.1 hy
                show fitsB (P.Fs.getD q.to_.toNat default).en _ = true
                rw [← g.el _ hFm]
                exact start_fits _
            · show ((P.L ++ [_]).map (fun x : PI => x.id)).Pairwise (· < ·)
              rw [List.map_append, List.pairwise_append]
              refine ⟨g.srt, by simp, fun a ha b hb => ?_⟩
              obtain ⟨z, hz, rfl⟩ := List.mem_map.1 ha
              simp at hb
              rw [hb]
              exact (g.lo z hz).2
            · (show 0 ≤ y.id ∧ y.id < ((P.next + 1 : Nat) : Int))
              rcases List.mem_append.1 hy with hy | hy
              · have := g.lo y hy; omega
              · obtain rfl := List.mem_singleton.1 hy
                show (0 : Int) ≤ P.next ∧ (P.next : Int) < ((P.next + 1 : Nat) : Int)
                omega
            · obtain ⟨r0, r, hL, hr0⟩ := g.root
              refine ⟨r0, r ++ [⟨P.next, q.to_.toNat, (P.Fs.getD q.to_.toNat default).E.map startM, id, at'⟩], ?_, hr0⟩
              show P.L ++ [_] = _
              rw [hL]
              rfl
            · rcases List.mem_append.1 hy with hy | hy
              · obtain ⟨h1, h2, h3, z, hz, h4⟩ := g.par y hy h0
                exact ⟨h1, h2, h3, z, List.mem_append_left _ hz, h4⟩
              · obtain rfl := List.mem_singleton.1 hy
                show 0 ≤ id ∧ id < (P.next : Int) ∧ 0 ≤ at' ∧ _
                refine ⟨by omega, by omega, by omega, x, List.mem_append_left _ hx, hid, q, hC, ?_⟩
                show q.to_ = ((q.to_.toNat : Nat) : Int)
                omega
            · show (P.L ++ [_]).length ≤ 40
              simp
              omega
            · show P.next + 1 ≤ n + 1
              have := g.next
              omega
    · exact g1
  · exact g1
theorem GoodP.endF {P : PT} {n : Nat} (g : GoodP P n) (id : Int) : GoodP (endF P id).2 n := by
  unfold Go.Proofs.Ytclkahggfdnpgaa.endF
  rcases h : P.of id with _ | x
  · exact g
  obtain ⟨hx, hid⟩ := of_mem h
  simp only
  split
  · exact g
  rename_i h0
  split
  · exact g
  rename_i hk
  split
  · rcases hp : P.of x.par with _ | y
    · exact g
    · obtain ⟨hy, hyid⟩ := of_mem hp
      simp only
      split
      · have g2 := g.setm hy (do_fits (P.f y) y.m x.ev.toNat (g.fit y hy))
        have hkids : ∀ z ∈ P.L, z.par ≠ id := by
          intro z hz hpar
          have hlo := g.lo x hx
          have : z ∈ P.kids id (-1) := List.mem_filter.2 ⟨hz, by unfold PI.kid; simp; omega⟩
          have := List.length_pos_of_mem this
          omega
        have hk2 : ∀ z ∈ (P.setm y.id (doM (P.f y) y.m x.ev.toNat)).L, z.par ≠ id := by
          intro z hz
          obtain ⟨u, hu, rfl⟩ := List.mem_map.1 hz
          rw [(setm_same _ _ u).2.2.1]
          exact hkids u hu
        exact g2.drop h0 hk2
      · exact g
  · exact g
theorem GoodP.tickF {P : PT} {n : Nat} (g : GoodP P n) : GoodP (tickF P).2 n := by
  unfold Go.Proofs.Ytclkahggfdnpgaa.tickF
  split
  · exact g
  · exact g.mapL PI.tick (fun x => ⟨rfl, rfl, rfl, rfl⟩) (fun x hx => tick_fits _ _ (g.fit x hx))
theorem GoodP.actF {P : PT} {n : Nat} (g : GoodP P n) (k id at' : Int) : GoodP (actF P k id at').2.2 (n + 1) := by
  unfold Go.Proofs.Ytclkahggfdnpgaa.actF
  split
  · exact g.doF _ _
  · split
    · exact (g.endF _).mono (Nat.le_succ n)
    · split
      · exact g.tickF.mono (Nat.le_succ n)
      · exact g.mono (Nat.le_succ n)
/-- The contracts' answers are the plain function's. -/
theorem kids_pl (T : TreeD) (id at' : Int) : (T.L.filter (isKid id at')).map InsD.pi = T.pl.kids id at' := by
  unfold PT.kids TreeD.pl
  simp only
  rw [List.filter_map]
  rfl
theorem kids_len (T : TreeD) (id at' : Int) : (T.L.filter (isKid id at')).length = (T.pl.kids id at').length := by
  rw [← kids_pl, List.length_map]
theorem of_pl {T : TreeD} (hs : (T.pl.L.map (·.id)).Pairwise (· < ·)) {x : InsD} (hx : x ∈ T.L) {id : Int} (h : x.id = id) : T.pl.of id = some x.pi := by
  rw [← h]
  exact of_some hs (List.mem_map.2 ⟨x, hx, rfl⟩)
theorem of_pl_none {T : TreeD} {id : Int} (h : ∀ x ∈ T.L, x.id ≠ id) : T.pl.of id = none := by
  rw [of_none]
  intro x hx
  obtain ⟨y, hy, rfl⟩ := List.mem_map.1 hx
  exact h y hy
theorem set_pl {L : List InsD} (hs : ((L.map InsD.pi).map (·.id)).Pairwise (· < ·)) {j : Nat} (hj : j < L.length) (x' : InsD) (M : List MarkD) (hx : x'.pi = { (L.getD j default).pi with m := M }) : (L.set j x').map InsD.pi = (L.map InsD.pi).map (PI.setm (L.getD j default).id M) := by
  apply List.ext_getElem?
  intro i
  rw [List.getElem?_map, List.getElem?_map, List.getElem?_map]
  by_cases hij : i = j
  · subst hij
    rw [List.getElem?_set_self hj, getD_at L i hj]
    simp only [Option.map_some, Option.some.injEq]
    rw [hx]
    unfold PI.setm
    exact (if_pos (show (L.getD i default).pi.id = (L.getD i default).id from rfl)).symm
  · rw [List.getElem?_set_ne (Ne.symm hij)]
    by_cases hi : i < L.length
    · rw [getD_at L i hi]
      simp only [Option.map_some]
      unfold PI.setm
      rw [if_neg]
      intro he
      have e1 : ((L.map InsD.pi).map (·.id))[i]'(by simpa using hi) = (L.getD i default).id := by simp [List.getD_eq_getElem?_getD, hi, InsD.pi]
      have e2 : ((L.map InsD.pi).map (·.id))[j]'(by simpa using hj) = (L.getD j default).id := by simp [List.getD_eq_getElem?_getD, hj, InsD.pi]
      have he' : (L.getD i default).id = (L.getD j default).id := he
      rcases Nat.lt_or_gt_of_ne hij with h | h
      · have := (List.pairwise_iff_getElem.1 hs) i j (by simpa using hi) (by simpa using hj) h
        omega
      · have := (List.pairwise_iff_getElem.1 hs) j i (by simpa using hj) (by simpa using hi) h
        omega
    · rw [List.getElem?_eq_none (by omega)]
      rfl
theorem erase_filter {L : List PI} (hs : (L.map (·.id)).Pairwise (· < ·)) : ∀ {j : Nat} {x : PI}, L[j]? = some x → L.eraseIdx j = L.filter (fun z => decide (z.id ≠ x.id)) := by
  induction L with
  | nil => intro j x h; simp at h
  | cons z L ih =>
    rw [List.map_cons, List.pairwise_cons] at hs
    intro j x h
    match j with
    | 0 =>
      simp at h
      subst h
      rw [List.eraseIdx_cons_zero, List.filter_cons, if_neg (by simp), List.filter_eq_self.2]
      intro y hy
      have := hs.1 y.id (List.mem_map.2 ⟨y, hy, rfl⟩)
      simp; omega
    | j + 1 =>
      simp only [List.getElem?_cons_succ] at h
      have hx := List.mem_of_getElem? h
      have := hs.1 x.id (List.mem_map.2 ⟨x, hx, rfl⟩)
      rw [List.eraseIdx_cons_succ, List.filter_cons, if_pos (by simp; omega), ih hs.2 h]
theorem getD_pl (T : TreeD) (tp : Nat) : T.pl.Fs.getD tp default = (T.Fs.getD tp default).nrm := getD_nrm _ _
theorem doF_none {P : PT} {id at' : Int} (h : P.of id = none) : doF P id at' = (0, 10, P) := by unfold doF; rw [h]
theorem doF_some {P : PT} {id at' : Int} {x : PI} (h : P.of id = some x) : doF P id at' =
    (if hasP at' x.m.length then
      if enabB (P.f x) x.m at' then
        match P.C ((x.tp : Int), at') with
        | none => (-1, 0, P.setm id (doM (P.f x) x.m at'.toNat))
        | some q =>
          if q.many = false ∧ 0 < (P.kids id at').length then (0, 17, P)
          else if 40 ≤ P.L.length then (0, 4, P)
          else ((P.next : Int), 0, { P with L := P.L ++ [⟨P.next, q.to_.toNat, (P.Fs.getD q.to_.toNat default).E.map startM, id, at'⟩], next := P.next + 1 })
      else (0, 11, P)
    else (0, 3, P) : Int × Int × PT) := by unfold doF; rw [h]
theorem doF_range {P : PT} {id at' : Int} {x : PI} (h : P.of id = some x) (hr : hasP at' x.m.length = false) : doF P id at' = (0, 3, P) := by
  rw [doF_some h, if_neg (by rw [hr]; simp)]
theorem doF_off {P : PT} {id at' : Int} {x : PI} (h : P.of id = some x) (hr : hasP at' x.m.length = true) (he : enabB (P.f x) x.m at' = false) : doF P id at' = (0, 11, P) := by
  rw [doF_some h, if_pos hr, if_neg (by rw [he]; simp)]
theorem doF_done {P : PT} {id at' : Int} {x : PI} (h : P.of id = some x) (hr : hasP at' x.m.length = true) (he : enabB (P.f x) x.m at' = true) (hC : P.C ((x.tp : Int), at') = none) : doF P id at' = (-1, 0, P.setm id (doM (P.f x) x.m at'.toNat)) := by
  rw [doF_some h, if_pos hr, if_pos he, hC]
theorem doF_call {P : PT} {id at' : Int} {x : PI} {q : CallD} (h : P.of id = some x) (hr : hasP at' x.m.length = true) (he : enabB (P.f x) x.m at' = true) (hC : P.C ((x.tp : Int), at') = some q) : doF P id at' =
          (if q.many = false ∧ 0 < (P.kids id at').length then (0, 17, P)
          else if 40 ≤ P.L.length then (0, 4, P)
          else ((P.next : Int), 0, { P with L := P.L ++ [⟨P.next, q.to_.toNat, (P.Fs.getD q.to_.toNat default).E.map startM, id, at'⟩], next := P.next + 1 }) : Int × Int × PT) := by
  rw [doF_some h, if_pos hr, if_pos he, hC]
theorem PT.ext {P Q : PT} (h1 : P.Fs = Q.Fs) (h2 : P.C = Q.C) (h3 : P.L = Q.L) (h4 : P.next = Q.next) : P = Q := by
  cases P; cases Q; cases h1; cases h2; cases h3; cases h4; rfl
theorem DoR.pl {T T' : TreeD} {id at' r E : Int} {n : Nat} (g : GoodP T.pl n) (h : DoR T id at' r E T') : doF T.pl id at' = (r, E, T'.pl) := by
  have hs := g.srt
  have hf : ∀ x : InsD, T.pl.f x.pi = (T.Fs.getD x.tp default).nrm := pl_f T
  cases h with
  | none h => exact doF_none (of_pl_none h)
  | range hx hid hr => exact doF_range (of_pl hs hx hid) hr
  | off hx hid hr he => exact doF_off (of_pl hs hx hid) hr (by rw [hf]; exact he)
  | done a c hj hid hr he hC =>
    rename_i j
    have hx := getD_memD T.L j hj
    rw [doF_done (of_pl hs hx hid) hr (by rw [hf]; exact he) hC, hf]
    have : T.pl.setm id (doM (T.Fs.getD (T.L.getD j default).tp default).nrm (T.L.getD j default).pi.m at'.toNat) = (setMk T j a c (doM (T.Fs.getD (T.L.getD j default).tp default) (T.L.getD j default).m at'.toNat)).pl := by
      refine PT.ext rfl rfl ?_ rfl
      rw [← hid]
      exact (set_pl hs hj { T.L.getD j default with a := a, c := c, m := doM (T.Fs.getD (T.L.getD j default).tp default) (T.L.getD j default).m at'.toNat } _ rfl).symm
    rw [this]
  | hold hx hid hr he hC hm hk =>
    rename_i x q
    rw [doF_call (of_pl hs hx hid) hr (by rw [hf]; exact he) hC]
    rw [kids_len] at hk
    rw [if_pos ⟨hm, hk⟩]
  | many hx hid hr he hC hm hk =>
    rename_i x q
    rw [doF_call (of_pl hs hx hid) hr (by rw [hf]; exact he) hC]
    rw [kids_len] at hm
    rw [if_neg (by rintro ⟨h1, h2⟩; rcases hm with hm | hm; rw [hm] at h1; cases h1; omega), if_pos (by simpa [TreeD.pl] using hk)]
  | spawn hx hid hr he hC hm hk hy =>
    rename_i x y q v
    rw [doF_call (of_pl hs hx hid) hr (by rw [hf]; exact he) hC]
    rw [kids_len] at hm
    rw [if_neg (by rintro ⟨h1, h2⟩; rcases hm with hm | hm; rw [hm] at h1; cases h1; omega), if_neg (by simpa [TreeD.pl] using hk)]
    have e : ({ T.pl with L := T.pl.L ++ [⟨T.pl.next, q.to_.toNat, (T.pl.Fs.getD q.to_.toNat default).E.map startM, id, at'⟩], next := T.pl.next + 1 } : PT) = TreeD.pl { T with v := v, L := T.L ++ [y], next := T.next + 1 } := by
      refine PT.ext rfl rfl ?_ rfl
      show T.L.map InsD.pi ++ _ = (T.L ++ [y]).map InsD.pi
      rw [List.map_append, getD_pl]
      congr 1
      unfold InsD.plain at hy
      simp only [Prod.mk.injEq] at hy
      obtain ⟨h1, h2, h3, h4, h5⟩ := hy
      simp only [List.map_cons, List.map_nil, InsD.pi]
      rw [h1, h2, h3, h4, h5]
      rfl
    rw [e]
    rfl
theorem endF_none {P : PT} {id : Int} (h : P.of id = none) : endF P id = (10, P) := by unfold endF; rw [h]
theorem endF_some {P : PT} {id : Int} {x : PI} (h : P.of id = some x) : endF P id = 
    if id = 0 then (1, P)
    else if 0 < (P.kids id (-1)).length then (17, P)
    else if accB (P.f x).en x.m then
      match P.of x.par with
      | none => (0, P)
      | some y => if doE (P.f y) y.m x.ev = 0 then (0, { P with L := (P.L.map (PI.setm y.id (doM (P.f y) y.m x.ev.toNat))).filter (fun z => decide (z.id ≠ id)) }) else (doE (P.f y) y.m x.ev, P)
    else (11, P) := by unfold endF; rw [h]
theorem EndR.pl {T T' : TreeD} {id E : Int} {n : Nat} (g : GoodP T.pl n) (h : EndR T id E T') : endF T.pl id = (E, T'.pl) := by
  have hs := g.srt
  have hf : ∀ x : InsD, T.pl.f x.pi = (T.Fs.getD x.tp default).nrm := pl_f T
  cases h with
  | none h => exact endF_none (of_pl_none h)
  | root hx hid h0 => rw [endF_some (of_pl hs hx hid), if_pos h0]
  | hold hx hid h0 hk =>
    rw [kids_len] at hk
    rw [endF_some (of_pl hs hx hid), if_neg h0, if_pos hk]
  | off hx hid h0 hk ha =>
    rename_i x
    rw [kids_len] at hk
    rw [endF_some (of_pl hs hx hid), if_neg h0, if_neg (by omega), if_neg (by rw [hf, show accB (T.Fs.getD x.tp default).nrm.en x.pi.m = false from ha]; simp)]
  | err hx hid h0 hk ha hy hyp hE hE0 =>
    rename_i x y
    rw [kids_len] at hk
    rw [endF_some (of_pl hs hx hid), if_neg h0, if_neg (by omega), if_pos (by rw [hf]; exact ha), of_pl hs hy (show y.id = x.pi.par from hyp)]
    simp only
    rw [hf, show doE (T.Fs.getD y.tp default).nrm y.pi.m x.pi.ev = E from hE, if_neg hE0]
  | done a c v hj hid h0 hk ha hq hqp hE =>
    rename_i j q
    have hx := getD_memD T.L j hj
    have hy := getD_memD T.L q hq
    rw [kids_len] at hk
    rw [endF_some (of_pl hs hx hid), if_neg h0, if_neg (by omega), if_pos (by rw [hf]; exact ha), of_pl hs hy (show (T.L.getD q default).id = (T.L.getD j default).pi.par from hqp)]
    simp only
    rw [hf, show doE (T.Fs.getD (T.L.getD q default).tp default).nrm (T.L.getD q default).pi.m (T.L.getD j default).pi.ev = 0 from hE, if_pos rfl]
    rw [Prod.mk.injEq]
    refine ⟨rfl, PT.ext rfl rfl ?_ rfl⟩
    obtain ⟨N, hN⟩ : ∃ N, doM (T.Fs.getD (T.L.getD q default).tp default) (T.L.getD q default).m (T.L.getD j default).ev.toNat = N := ⟨_, rfl⟩
    have hN2 : doM (T.Fs.getD (T.L.getD q default).tp default).nrm (T.L.getD q default).pi.m (T.L.getD j default).pi.ev.toNat = N := hN
    rw [hN2]
    unfold setMk
    simp only [hN]
    have e1 := set_pl (M := N) hs hq { T.L.getD q default with a := a, c := c, m := N } rfl
    show (T.pl.L.map (PI.setm (T.L.getD q default).id N)).filter _ = ((T.L.set q { T.L.getD q default with a := a, c := c, m := N }).eraseIdx j).map InsD.pi
    have hmE : ∀ (L : List InsD) (j : Nat), (L.eraseIdx j).map InsD.pi = (L.map InsD.pi).eraseIdx j := by
      intro L
      induction L with
      | nil => intro j; rfl
      | cons z L ih =>
        intro j
        cases j with
        | zero => rfl
        | succ j => simp [ih]
    rw [hmE, e1]
    show (T.pl.L.map _).filter _ = (T.pl.L.map _).eraseIdx j
    have hs2 : ((T.pl.L.map (PI.setm (T.L.getD q default).id N)).map (·.id)).Pairwise (· < ·) := by
      rw [List.map_map, show ((fun x : PI => x.id) ∘ PI.setm (T.L.getD q default).id N) = fun x => x.id from funext fun x => (setm_same _ _ x).1]
      exact hs
    have hj2 : T.pl.L[j]? = some (T.L.getD j default).pi := by
      show (T.L.map InsD.pi)[j]? = _
      rw [List.getElem?_map, getD_at T.L j hj]
      rfl
    have hj3 : (T.pl.L.map (PI.setm (T.L.getD q default).id N))[j]? = some (PI.setm (T.L.getD q default).id N (T.L.getD j default).pi) := by
      rw [List.getElem?_map, hj2]
      rfl
    rw [erase_filter hs2 hj3, (setm_same _ _ _).1, show (T.L.getD j default).pi.id = id from hid]
theorem slack_pl (T : TreeD) : slackT T.Fs T.L = T.pl.slack := by
  unfold slackT PT.slack
  show _ = (T.L.map InsD.pi).foldl _ _
  rw [List.foldl_map]
  congr 1
  funext n x
  rw [pl_f]
  rfl
theorem TickRel.pl {T T' : TreeD} (h : TickRel T T' T.L.length) : T'.pl = { T.pl with L := T.pl.L.map PI.tick } := by
  have e := h.eq
  have hL : T'.L.map InsD.pi = (T.L.map InsD.pi).map PI.tick := by
    apply List.ext_getElem?
    intro i
    rw [List.getElem?_map, List.getElem?_map, List.getElem?_map]
    by_cases hi : i < T.L.length
    · rw [getD_at T.L i hi, getD_at T'.L i (by rw [h.len]; exact hi)]
      simp only [Option.map_some, Option.some.injEq]
      have := h.old i hi hi
      unfold InsD.plain InsD.tick at this
      simp only [Prod.mk.injEq] at this
      obtain ⟨h1, h2, h3, h4, h5⟩ := this
      unfold InsD.pi PI.tick
      simp only
      rw [h1, h2, h3, h4, h5]
    · rw [List.getElem?_eq_none (by rw [h.len]; omega), List.getElem?_eq_none (by omega)]
      rfl
  show PT.mk _ _ _ _ = PT.mk _ _ _ _
  rw [PT.mk.injEq]
  refine ⟨?_, ?_, hL, ?_⟩
  · rw [e]; rfl
  · rw [e]; rfl
  · rw [e]; rfl
end Go.Proofs.Ytclkahggfdnpgaa
set_option linter.unusedVariables false
set_option linter.unusedSimpArgs false
namespace Go.Proofs.Ytclkahggfdnpgaa
open Go.RowKit
def newPT (Fs : List FlatD) (Cs : List CallD) : PT := ⟨Fs.map FlatD.nrm, callsM Cs Cs.length, [⟨0, 0, (Fs.getD 0 default).E.map startM, -1, -1⟩], 1⟩
theorem SameF.nrm {f g : FlatD} (h : SameF f g) : g.nrm = f.nrm := by
  unfold FlatD.nrm
  rw [h.E, h.T, h.en, h.tn]
theorem NewT.pl {p : ProgD} {T : TreeD} (h : NewT p T) (h0 : 0 < p.Fs.length) : T.pl = newPT p.Fs p.Cs := by
  obtain ⟨x, hL, hx⟩ := h.L
  refine PT.ext ?_ h.C ?_ h.next
  · show T.Fs.map FlatD.nrm = p.Fs.map FlatD.nrm
    apply List.ext_getElem?
    intro i
    rw [List.getElem?_map, List.getElem?_map]
    by_cases hi : i < p.Fs.length
    · rw [getD_at p.Fs i hi, getD_at T.Fs i (by rw [h.len]; exact hi)]
      simp only [Option.map_some]
      rw [(h.same i hi).nrm]
    · rw [List.getElem?_eq_none (by rw [h.len]; omega), List.getElem?_eq_none (by omega)]
  · show T.L.map InsD.pi = _
    rw [hL]
    unfold InsD.plain at hx
    simp only [Prod.mk.injEq] at hx
    obtain ⟨h1, h2, h3, h4, h5⟩ := hx
    show [InsD.pi x] = [_]
    unfold InsD.pi
    rw [h1, h2, h3, h4, h5, (h.same 0 h0).E]
theorem callsM_mem {Cs : List CallD} {j : Nat} {k : Int × Int} {c : CallD} (h : callsM Cs j k = some c) : ∃ i, i < j ∧ Cs.getD i default = c ∧ k = c.key := by
  induction j with
  | zero => cases h
  | succ j ih =>
    have e : callsM Cs (j + 1) k = if k = (Cs.getD j default).key then some (Cs.getD j default) else callsM Cs j k := rfl
    rw [e] at h
    split at h
    · rename_i hk
      simp only [Option.some.injEq] at h
      exact ⟨j, by omega, h, by rw [hk, h]⟩
    · obtain ⟨i, hi, h1, h2⟩ := ih h
      exact ⟨i, by omega, h1, h2⟩
theorem newPT_good {Fs : List FlatD} {Cs : List CallD} (hm : mayB Fs Cs = true) (en : ∀ f ∈ Fs, f.en ≤ 10) (el : ∀ f ∈ Fs, f.E.length = f.en) : GoodP (newPT Fs Cs) 1 := by
  unfold mayB at hm
  rw [Bool.and_eq_true, Bool.and_eq_true, decide_eq_true_iff, decide_eq_true_iff, List.all_eq_true] at hm
  obtain ⟨hall, h1, h8⟩ := hm
  have hmem : ∀ x ∈ (newPT Fs Cs).L, x = ⟨0, 0, (Fs.getD 0 default).E.map startM, -1, -1⟩ := fun x hx => List.mem_singleton.1 hx
  refine ⟨fun x hx => ?_, fun x hx => ?_, fun f hf => ?_, fun f hf => ?_, by simp [newPT], fun x hx => ?_, ⟨_, [], rfl, rfl, rfl, rfl, rfl⟩, fun x hx h0 => ?_, fun k c hc => ?_, ?_, by simp [newPT], Nat.le_refl 1⟩
  · rw [hmem x hx]
    show 0 < (Fs.map FlatD.nrm).length
    simp; omega
  · rw [hmem x hx]
    show fitsB ((Fs.map FlatD.nrm).getD 0 default).en _ = true
    rw [getD_nrm]
    have : Fs.getD 0 default ∈ Fs := getD_memD _ _ (by omega)
    show fitsB (Fs.getD 0 default).en _ = true
    rw [← el _ this]
    exact start_fits _
  · obtain ⟨g, hg, rfl⟩ := List.mem_map.1 hf
    exact en g hg
  · obtain ⟨g, hg, rfl⟩ := List.mem_map.1 hf
    exact el g hg
  · rw [hmem x hx]
    show (0 : Int) ≤ 0 ∧ (0 : Int) < ((1 : Nat) : Int)
    omega
  · rw [hmem x hx] at h0
    exact absurd rfl h0
  · obtain ⟨i, hi, rfl, rfl⟩ := callsM_mem hc
    have hb := hall i (List.mem_range.2 hi)
    unfold badC at hb
    simp only [Bool.not_eq_true', Bool.or_eq_false_iff, Bool.not_eq_false', decide_eq_false_iff_not] at hb
    obtain ⟨b1, b2, b3, b4, _⟩ := hb
    unfold hasP at b1 b2 b4
    simp only [Bool.and_eq_true, decide_eq_true_iff] at b1 b2 b4
    refine ⟨rfl, by omega, by omega, ?_, by omega⟩
    show _ < (((Fs.map FlatD.nrm).length : Nat) : Int)
    rw [List.length_map]
    omega
  · show (Fs.map FlatD.nrm).length ≤ 8
    simp
    exact h8
/-- Contracts in plain terms. -/
def DoQ (tb hi : Nat) (T : TreeD) (w : World) (q : Int × Int × PT) (e : Ending) (w' : World) : Prop :=
  ∃ T', e = .returned (.tuple #[.int .i64 q.1, .int .i64 q.2.1]) ∧ T'.pl = q.2.2 ∧ NextT tb hi T T' w w'
def EndQ (tb hi : Nat) (T : TreeD) (w : World) (q : Int × PT) (e : Ending) (w' : World) : Prop :=
  ∃ T', e = .returned (.int .i64 q.1) ∧ T'.pl = q.2 ∧ NextT tb hi T T' w w'
theorem do_pl (tb hi : Nat) (T : TreeD) (id at' : Int) (w : World) {n : Nat} (h : TreeAt w tb hi T) (g : GoodP T.pl n) (hn : n ≤ 900) (hhi : hi ≤ w.heap.size) :
    Calls Try.prog 41 #[.pointer (some ⟨tb, 0, none⟩), .int .i64 id, .int .i64 at'] w (DoQ tb hi T w (doF T.pl id at')) := by
  refine (tdo_any tb hi T id at' w h (g.good hn) hhi).mono ?_
  rintro e w' ⟨r, E, T', rfl, hD, hN⟩
  rw [hD.pl g]
  exact ⟨T', rfl, rfl, hN⟩
theorem end_pl (tb hi : Nat) (T : TreeD) (id : Int) (w : World) {n : Nat} (h : TreeAt w tb hi T) (g : GoodP T.pl n) (hn : n ≤ 900) (hhi : hi ≤ w.heap.size) :
    Calls Try.prog 43 #[.pointer (some ⟨tb, 0, none⟩), .int .i64 id] w (EndQ tb hi T w (endF T.pl id)) := by
  refine (tend_any tb hi T id w h (g.good hn) hhi).mono ?_
  rintro e w' ⟨E, T', rfl, hD, hN⟩
  rw [hD.pl g]
  exact ⟨T', rfl, rfl, hN⟩
theorem tick_pl (tb hi : Nat) (T : TreeD) (w : World) {n : Nat} (h : TreeAt w tb hi T) (g : GoodP T.pl n) (hn : n ≤ 900) (hhi : hi ≤ w.heap.size) :
    Calls Try.prog 45 #[.pointer (some ⟨tb, 0, none⟩)] w (EndQ tb hi T w (tickF T.pl)) := by
  refine (ttick_any tb hi T w h (g.good hn) hhi).mono ?_
  rintro e w' (⟨rfl, hs, hF⟩ | ⟨rfl, hs, T', hT, hN⟩)
  · rw [slack_pl] at hs
    unfold tickF
    rw [if_pos hs]
    exact ⟨T, rfl, rfl, .refl h hF⟩
  · rw [slack_pl] at hs
    unfold tickF
    rw [if_neg (by omega)]
    exact ⟨T', rfl, hT.pl, hN⟩
theorem slack_q (tb hi : Nat) (T : TreeD) (w : World) {n : Nat} (h : TreeAt w tb hi T) (g : GoodP T.pl n) (hn : n ≤ 900) :
    Calls Try.prog 54 #[.pointer (some ⟨tb, 0, none⟩)] w fun e w' => e = .returned (.int .i64 T.pl.slack) ∧ Fr [] w w' := by
  rw [← slack_pl]
  exact tslack_any tb hi T w h (g.good hn)
def PT.done (P : PT) : Bool := decide (P.L.length = 1) && accB (P.Fs.getD 0 default).en (P.L.getD 0 default).m
theorem done_q (tb hi : Nat) (T : TreeD) (w : World) {n : Nat} (h : TreeAt w tb hi T) (g : GoodP T.pl n) (hn : n ≤ 900) :
    Calls Try.prog 56 #[.pointer (some ⟨tb, 0, none⟩)] w fun e w' => e = .returned (.bool T.pl.done) ∧ Fr [] w w' := by
  have e : T.pl.done = doneT T.Fs T.L := by
    unfold PT.done doneT
    rw [getD_pl]
    obtain ⟨x, r, hL, _⟩ := (g.good hn).root
    have : T.pl.L = T.L.map InsD.pi := rfl
    rw [this, hL]
    simp only [List.map_cons, List.length_cons, List.length_map]
    rfl
  rw [e]
  exact done_any tb hi T w h (g.good hn)
def MarkQ (P : PT) (id : Int) (w : World) (e : Ending) (w' : World) : Prop :=
  (P.of id = none ∧ e = .returned (.tuple #[.slice none 0 0, .bool false]) ∧ Fr [] w w') ∨
  ∃ x, P.of id = some x ∧ ∃ a c, e = .returned (.tuple #[.slice a x.m.length c, .bool true]) ∧ MarksAt w' a x.m.length x.m ∧ (∀ g o, 0 < x.m.length → a = some ⟨g, o, none⟩ → w.heap.size ≤ g) ∧ Fr [] w w'
theorem mark_q (tb hi : Nat) (T : TreeD) (id : Int) (w : World) {n : Nat} (h : TreeAt w tb hi T) (g : GoodP T.pl n) (hn : n ≤ 900) :
    Calls Try.prog 58 #[.pointer (some ⟨tb, 0, none⟩), .int .i64 id] w (MarkQ T.pl id w) := by
  refine (marking_any tb hi T id w h (g.good hn)).mono ?_
  rintro e w' (⟨rfl, hno, hF⟩ | ⟨x, hx, hid, a, c, rfl, hM, hf, hF⟩)
  · exact .inl ⟨of_pl_none hno, rfl, hF⟩
  · exact .inr ⟨x.pi, of_pl g.srt hx hid, a, c, rfl, hM, hf, hF⟩
/-- How deep an instance is. -/
def PT.depthN (P : PT) : Nat → Int → Int
  | 0, _ => -1
  | k + 1, id => match P.of id with
    | none => -1
    | some x => P.depthN k x.par + 1
def PT.depth (P : PT) (id : Int) : Int := P.depthN 1000 id
theorem depthI_neg {T : TreeD} {n : Nat} (g : GoodP T.pl n) {id d : Int} (h : DepthI T.L id d) (h0 : id < 0) : d = -1 := by
  cases h with
  | out _ => rfl
  | up hy hd2 =>
    rename_i y d2
    have := g.lo y.pi (List.mem_map.2 ⟨y, hy, rfl⟩)
    have : 0 ≤ y.id := this.1
    omega
theorem depthN_eq {T : TreeD} {n : Nat} (g : GoodP T.pl n) {id d : Int} (h : DepthI T.L id d) : ∀ k : Nat, id < k → T.pl.depthN k id = d ∨ (k = 0 ∧ id < 0) := by
  induction h with
  | out hno =>
    intro k hk
    match k with
    | 0 => exact .inl rfl
    | k + 1 =>
      refine .inl ?_
      unfold PT.depthN
      rw [of_pl_none hno]
  | up hx hd ih =>
    rename_i x d
    intro k hk
    have hlo := g.lo x.pi (List.mem_map.2 ⟨x, hx, rfl⟩)
    have hpx : x.par < x.id := by
      by_cases h0 : x.id = 0
      · obtain ⟨y, r, hL, y1, y2, _⟩ := g.root
        have : x.pi = y := srt_uniq g.srt (List.mem_map.2 ⟨x, hx, rfl⟩) (by rw [hL]; simp) (by rw [y1]; exact h0)
        have : x.par = -1 := by rw [← y2, ← this]; rfl
        omega
      · exact (g.par x.pi (List.mem_map.2 ⟨x, hx, rfl⟩) h0).2.1
    have hlo1 : 0 ≤ x.id := hlo.1
    match k with
    | 0 => exact .inr ⟨rfl, by omega⟩
    | k + 1 =>
      refine .inl ?_
      unfold PT.depthN
      rw [of_pl g.srt hx rfl]
      simp only
      rcases ih k (by have : ((k + 1 : Nat) : Int) = k + 1 := by omega
                      omega) with h1 | ⟨h1, h2⟩
      · show T.pl.depthN k x.par + 1 = d + 1
        rw [h1]
      · subst h1
        have hd' : d = -1 := depthI_neg g hd (by omega)
        rw [hd']
        rfl
theorem depth_q (tb hi : Nat) (T : TreeD) (id : Int) (w : World) {n : Nat} (h : TreeAt w tb hi T) (g : GoodP T.pl n) (hn : n ≤ 900) :
    Calls Try.prog 52 #[.pointer (some ⟨tb, 0, none⟩), .int .i64 id] w fun e w' => e = .returned (.int .i64 (T.pl.depth id)) ∧ Fr [] w w' := by
  refine (depth_any tb hi T id w h (g.good hn)).mono ?_
  rintro e w' ⟨d, rfl, hd, hF⟩
  refine ⟨?_, hF⟩
  by_cases h9 : id < 1000
  · rcases depthN_eq g hd 1000 (by omega) with h1 | ⟨h1, _⟩
    · unfold PT.depth
      rw [h1]
    · omega
  · have hno : ∀ x ∈ T.L, x.id ≠ id := by
      intro x hx he
      have := (g.lo x.pi (List.mem_map.2 ⟨x, hx, rfl⟩)).2
      have h2 : x.id < (T.pl.next : Int) := this
      have := g.next
      omega
    have hd' : d = -1 := by
      cases hd with
      | out _ => rfl
      | up hx _ => exact absurd rfl (hno _ hx)
    rw [hd']
    unfold PT.depth PT.depthN
    rw [of_pl_none hno]
theorem live_q (tb hi : Nat) (T : TreeD) (w : World) (h : TreeAt w tb hi T) : Calls Try.prog 48 #[.pointer (some ⟨tb, 0, none⟩)] w (IntsP (T.pl.L.map (·.id)) w) := by
  have e : T.pl.L.map (·.id) = T.L.map (·.id) := by
    show (T.L.map InsD.pi).map _ = _
    rw [List.map_map]
    rfl
  rw [e]
  exact live_any tb hi T w h
theorem children_q (tb hi : Nat) (T : TreeD) (id : Int) (w : World) (h : TreeAt w tb hi T) : Calls Try.prog 50 #[.pointer (some ⟨tb, 0, none⟩), .int .i64 id] w (IntsP ((T.pl.kids id (-1)).map (·.id)) w) := by
  have e : (T.pl.kids id (-1)).map (·.id) = (T.L.filter (isKid id (-1))).map (·.id) := by
    rw [← kids_pl, List.map_map]
    rfl
  rw [e]
  exact children_any tb hi T id w h
end Go.Proofs.Ytclkahggfdnpgaa
