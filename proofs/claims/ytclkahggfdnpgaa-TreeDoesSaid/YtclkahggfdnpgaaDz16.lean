/- Parts of the proof: TrS, MapB, TrM, Rt1, Rt2, Mk19. (Merged by pack.py.) -/
import Derived.Test.YtclkahggfdnpgaaDz15
import Derived.Test.YtclkahggfdnpgaaDz5
import Derived.WideKeyEntry
import Derived.Test.YtclkahggfdnpgaaDz6
import Derived.Deep.RegionHeldLaw
set_option linter.unusedVariables false
set_option linter.unusedSimpArgs false
namespace Go.Proofs.Ytclkahggfdnpgaa
open Go.RowKit
def cntP (P : PT) (id at' : Int) : Nat := (P.L.filter (fun z => decide (z.par = id ∧ z.ev = at'))).length
structure SingI (P : PT) (tm : Int → Option Int) (ch : Int × Int → Option Int) (fm : Int → Option (Int × Int)) : Prop where
  tp : ∀ x ∈ P.L, (tm x.id).getD 0 = x.tp
  ch : ∀ id at', 0 ≤ id → (ch (id, at')).getD 0 = (cntP P id at' : Nat)
  fm : ∀ x ∈ P.L, x.id ≠ 0 → (fm x.id).getD (0, 0) = (x.par, x.ev)
theorem cnt_map (L : List PI) (h : PI → PI) (hh : ∀ x, (h x).par = x.par ∧ (h x).ev = x.ev) (id at' : Int) : ((L.map h).filter (fun z => decide (z.par = id ∧ z.ev = at'))).length = (L.filter (fun z => decide (z.par = id ∧ z.ev = at'))).length := by
  rw [List.filter_map, List.length_map]
  congr 1
  apply List.filter_congr
  intro x _
  show decide ((h x).par = id ∧ (h x).ev = at') = _
  rw [(hh x).1, (hh x).2]
theorem SingI.mapL {P : PT} {tm : Int → Option Int} {ch : Int × Int → Option Int} {fm : Int → Option (Int × Int)} (s : SingI P tm ch fm) (h : PI → PI) (hh : ∀ x, (h x).id = x.id ∧ (h x).tp = x.tp ∧ (h x).par = x.par ∧ (h x).ev = x.ev) : SingI { P with L := P.L.map h } tm ch fm := by
  refine ⟨fun x hx => ?_, fun id at' h0 => ?_, fun x hx h0 => ?_⟩
  · obtain ⟨y, hy, rfl⟩ := List.mem_map.1 hx
    rw [(hh y).1, (hh y).2.1]
    exact s.tp y hy
  · rw [s.ch id at' h0]
    unfold cntP
    rw [cnt_map P.L h (fun x => (hh x).2.2)]
  · obtain ⟨y, hy, rfl⟩ := List.mem_map.1 hx
    rw [(hh y).1] at h0 ⊢
    rw [(hh y).2.2.1, (hh y).2.2.2]
    exact s.fm y hy h0
theorem SingI.spawn {P : PT} {n : Nat} (g : GoodP P n) {tm : Int → Option Int} {ch : Int × Int → Option Int} {fm : Int → Option (Int × Int)} (s : SingI P tm ch fm) {id at' tq : Int} (h0 : 0 ≤ tq) (hid : id < P.next) (M : List MarkD) :
    SingI { P with L := P.L ++ [⟨P.next, tq.toNat, M, id, at'⟩], next := P.next + 1 } (fun y => if y = (P.next : Int) then some tq else tm y) (fun y => if y = (id, at') then some ((ch (id, at')).getD 0 + 1) else ch y) (fun y => if y = (P.next : Int) then some (id, at') else fm y) := by
  refine ⟨fun x hx => ?_, fun i a hi => ?_, fun x hx hx0 => ?_⟩
  · rcases List.mem_append.1 hx with hx | hx
    · have := (g.lo x hx).2
      rw [if_neg (by omega)]
      exact s.tp x hx
    · obtain rfl := List.mem_singleton.1 hx
      rw [if_pos rfl]
      show tq = ((tq.toNat : Nat) : Int)
      omega
  · unfold cntP
    simp only
    rw [List.filter_append, List.length_append]
    have hs := s.ch i a hi
    unfold cntP at hs
    by_cases he : (i, a) = (id, at')
    · rw [if_pos he, ← he]
      simp only [Prod.mk.injEq] at he
      obtain ⟨rfl, rfl⟩ := he
      rw [show (List.filter (fun z : PI => decide (z.par = i ∧ z.ev = a)) [⟨P.next, tq.toNat, M, i, a⟩]).length = 1 by simp]
      show (some ((ch (i, a)).getD 0 + 1)).getD 0 = _
      rw [Option.getD_some, hs]
      omega
    · rw [if_neg he]
      simp only [Prod.mk.injEq] at he
      rw [show (List.filter (fun z : PI => decide (z.par = i ∧ z.ev = a)) [⟨P.next, tq.toNat, M, id, at'⟩]).length = 0 by
        rw [List.filter_cons, if_neg (by simp only [decide_eq_true_eq]; rintro ⟨rfl, rfl⟩; exact he ⟨rfl, rfl⟩)]; rfl]
      rw [hs]
      omega
  · rcases List.mem_append.1 hx with hx | hx
    · have := (g.lo x hx).2
      rw [if_neg (by omega)]
      exact s.fm x hx hx0
    · obtain rfl := List.mem_singleton.1 hx
      rw [if_pos rfl]
      rfl
theorem cnt_drop {L : List PI} (hs : (L.map (·.id)).Pairwise (· < ·)) {x : PI} (hx : x ∈ L) (i a : Int) :
    ((L.filter (fun z => decide (z.id ≠ x.id))).filter (fun z => decide (z.par = i ∧ z.ev = a))).length + (if x.par = i ∧ x.ev = a then 1 else 0) = (L.filter (fun z => decide (z.par = i ∧ z.ev = a))).length := by
  induction L with
  | nil => cases hx
  | cons z L ih =>
    rw [List.map_cons, List.pairwise_cons] at hs
    rcases List.mem_cons.1 hx with rfl | hx'
    · have hall : L.filter (fun z => decide (z.id ≠ x.id)) = L := by
        rw [List.filter_eq_self]
        intro y hy
        have := hs.1 y.id (List.mem_map.2 ⟨y, hy, rfl⟩)
        rw [decide_eq_true_iff]
        omega
      rw [List.filter_cons, if_neg (by simp), hall, List.filter_cons]
      by_cases h : x.par = i ∧ x.ev = a
      · rw [if_pos h, if_pos (by simpa using h)]
        simp
      · rw [if_neg h, if_neg (by simpa using h)]
        rfl
    · have hz := hs.1 x.id (List.mem_map.2 ⟨x, hx', rfl⟩)
      have := ih hs.2 hx'
      rw [List.filter_cons_of_pos (l := L) (p := fun z : PI => decide (z.id ≠ x.id)) (by rw [decide_eq_true_iff]; omega)]
      by_cases h : z.par = i ∧ z.ev = a
      · rw [List.filter_cons_of_pos (p := fun z : PI => decide (z.par = i ∧ z.ev = a)) (by simpa using h), List.filter_cons_of_pos (p := fun z : PI => decide (z.par = i ∧ z.ev = a)) (by simpa using h)]
        rw [List.length_cons, List.length_cons]
        omega
      · rw [List.filter_cons_of_neg (p := fun z : PI => decide (z.par = i ∧ z.ev = a)) (by simpa using h), List.filter_cons_of_neg (p := fun z : PI => decide (z.par = i ∧ z.ev = a)) (by simpa using h)]
        exact this
theorem SingI.drop {P : PT} {n : Nat} (g : GoodP P n) {tm : Int → Option Int} {ch : Int × Int → Option Int} {fm : Int → Option (Int × Int)} (s : SingI P tm ch fm) {x : PI} (hx : x ∈ P.L) :
    SingI { P with L := P.L.filter (fun z => decide (z.id ≠ x.id)) } tm (fun y => if y = (x.par, x.ev) then some ((ch (x.par, x.ev)).getD 0 - 1) else ch y) fm := by
  refine ⟨fun z hz => s.tp z (List.mem_filter.1 hz).1, fun i a hi => ?_, fun z hz h0 => s.fm z (List.mem_filter.1 hz).1 h0⟩
  have hc := cnt_drop g.srt hx i a
  have hs := s.ch i a hi
  unfold cntP at hs ⊢
  simp only
  by_cases he : (i, a) = (x.par, x.ev)
  · rw [if_pos he, ← he, Option.getD_some, hs]
    simp only [Prod.mk.injEq] at he
    rw [if_pos ⟨he.1.symm, he.2.symm⟩] at hc
    omega
  · rw [if_neg he, hs]
    simp only [Prod.mk.injEq] at he
    rw [if_neg (fun h => he ⟨h.1.symm, h.2.symm⟩)] at hc
    omega
end Go.Proofs.Ytclkahggfdnpgaa
set_option linter.unusedVariables false
set_option linter.unusedSimpArgs false
namespace Go.Proofs.Ytclkahggfdnpgaa
open Go.ChangeMaps (setBlock heap_setBlock_same heap_setBlock_other)
section
variable {P : Program} {k e t : TypeId} {κ α : Type} [DecidableEq κ] (K : KeyIn P k κ) (val : α → Value)
/-- Block b of w is a map of at most n entries, each with a stamp of its own: m. -/
structure MapS (w : World) (b n : Nat) (m : κ → Option α) : Prop where
  ex : ∃ (es : Array MapEntry) (clock : Nat) (L : List (κ × α)), w.heap[b]? = some (.map es clock) ∧ pairsOf K val es.toList L ∧ L.length ≤ n ∧ (L.map (·.1)).Nodup ∧ (∀ x, m x = lookL L x) ∧ (∀ s ∈ es.toList.map (·.born), s < clock) ∧ (es.toList.map (·.born)).Nodup
variable {K val}
variable {w : World} {b n : Nat} {m : κ → Option α}
theorem MapS.toA (h : MapS K val w b n m) : MapA K val w b n m := by
  obtain ⟨es, clock, L, h1, h2, h3, h4, h5, _⟩ := h.ex
  exact ⟨es, clock, L, h1, h2, h3, h4, h5⟩
theorem MapS.lt (h : MapS K val w b n m) : b < w.heap.size := h.toA.lt
theorem MapS.fr {w' : World} {S : List Nat} (h : MapS K val w b n m) (f : Fr S w w') (hb : b ∉ S) : MapS K val w' b n m := by
  have hlt := h.lt
  obtain ⟨es, clock, L, h1, r⟩ := h.ex
  exact ⟨es, clock, L, (f.block b hlt hb).trans h1, r⟩
theorem MapS.mono {n' : Nat} (h : MapS K val w b n m) (hn : n ≤ n') : MapS K val w b n' m := by
  obtain ⟨es, clock, L, h1, h2, h3, r⟩ := h.ex
  exact ⟨es, clock, L, h1, h2, Nat.le_trans h3 hn, r⟩
theorem MapS.made (w : World) : MapS K val (w.alloc (.map #[] 0)) w.heap.size 0 (fun _ => none) :=
  ⟨#[], 0, [], heap_alloc_new _ _, rfl, Nat.le_refl _, List.Pairwise.nil, fun x => rfl, by simp, List.Pairwise.nil⟩
end
end Go.Proofs.Ytclkahggfdnpgaa
set_option linter.unusedVariables false
set_option linter.unusedSimpArgs false
namespace Go.Proofs.Ytclkahggfdnpgaa
open Go.RowKit
def intK : KeyIn Try.prog 3 Int := intKey Try.prog 3 Try.underlying3
def pairV (a : Int × Int) : Value := .agg #[.int .i64 a.1, .int .i64 a.2]
section
variable {P : Program} {k e t : TypeId} {κ α : Type} [DecidableEq κ] {K : KeyIn P k κ} {val : α → Value} {w : World} {b n : Nat} {m : κ → Option α}
end
/-- Only maps turn that are not the tree's own. -/
def Mapped (w : World) (tb : Nat) (Z : List Nat) : Prop := ∀ z ∈ Z, tb < z ∧ ∃ es cl, w.heap[z]? = some (.map es cl)
theorem MapA.isMap {P : Program} {k : TypeId} {κ α : Type} [DecidableEq κ] {K : KeyIn P k κ} {val : α → Value} {w : World} {b n : Nat} {m : κ → Option α} (h : MapA K val w b n m) : ∃ es cl, w.heap[b]? = some (.map es cl) := by
  obtain ⟨es, clock, L, h1, _⟩ := h.ex
  exact ⟨es, clock, h1⟩
theorem Mapped.one {P : Program} {k : TypeId} {κ α : Type} [DecidableEq κ] {K : KeyIn P k κ} {val : α → Value} {w : World} {b n tb : Nat} {m : κ → Option α} (h : MapA K val w b n m) (ht : tb < b) : Mapped w tb [b] := fun z hz => by
  obtain rfl := List.mem_singleton.1 hz
  exact ⟨ht, h.isMap⟩
/-- The law's maps. -/
structure Maps4 (w : World) (tb cb mb xb fb : Nat) (S : List Nat) (Cs : List CallD) (tm : Int → Option Int) (ch : Int × Int → Option Int) (fm : Int → Option (Int × Int)) : Prop where
  call : ∃ n, MapA pairK CallD.val w cb n (callsM Cs Cs.length)
  tm : ∃ n, MapA intK iv w mb n tm
  ch : ∃ n, MapS pairK iv w xb n ch
  fm : ∃ n, MapA intK pairV w fb n fm
  tc : tb < cb
  cm : cb < mb ∧ mb < xb ∧ xb < fb
  ap : cb ∉ S ∧ mb ∉ S ∧ xb ∉ S ∧ fb ∉ S
theorem Maps4.lt {w : World} {tb cb mb xb fb : Nat} {S : List Nat} {Cs : List CallD} {tm : Int → Option Int} {ch : Int × Int → Option Int} {fm : Int → Option (Int × Int)} (h : Maps4 w tb cb mb xb fb S Cs tm ch fm) : fb < w.heap.size := by
  obtain ⟨n, hn⟩ := h.fm
  exact hn.lt
theorem Maps4.fr {w w' : World} {tb cb mb xb fb : Nat} {S : List Nat} {Cs : List CallD} {tm : Int → Option Int} {ch : Int × Int → Option Int} {fm : Int → Option (Int × Int)} (h : Maps4 w tb cb mb xb fb S Cs tm ch fm) (f : Fr [] w w') : Maps4 w' tb cb mb xb fb S Cs tm ch fm := by
  obtain ⟨⟨n1, h1⟩, ⟨n2, h2⟩, ⟨n3, h3⟩, ⟨n4, h4⟩, h5, h6, h7⟩ := h
  exact ⟨⟨n1, h1.fr f (by simp)⟩, ⟨n2, h2.fr f (by simp)⟩, ⟨n3, h3.fr f (by simp)⟩, ⟨n4, h4.fr f (by simp)⟩, h5, h6, h7⟩
theorem Maps4.next {w w' : World} {tb cb mb xb fb : Nat} {S S' : List Nat} {Cs : List CallD} {tm : Int → Option Int} {ch : Int × Int → Option Int} {fm : Int → Option (Int × Int)} (h : Maps4 w tb cb mb xb fb S Cs tm ch fm) (f : Fr S w w') (hS : ∀ y ∈ S', y ∈ S ∨ w.heap.size ≤ y) : Maps4 w' tb cb mb xb fb S' Cs tm ch fm := by
  have hl := h.lt
  obtain ⟨⟨n1, h1⟩, ⟨n2, h2⟩, ⟨n3, h3⟩, ⟨n4, h4⟩, h5, h6, a1, a2, a3, a4⟩ := h
  have key : ∀ z, z ∉ S → z < w.heap.size → z ∉ S' := fun z hz hzl hz' => by
    rcases hS z hz' with h | h
    · exact hz h
    · omega
  exact ⟨⟨n1, h1.fr f a1⟩, ⟨n2, h2.fr f a2⟩, ⟨n3, h3.fr f a3⟩, ⟨n4, h4.fr f a4⟩, h5, h6, key _ a1 (by omega), key _ a2 (by omega), key _ a3 (by omega), key _ a4 (by omega)⟩
section
variable {w : World} {tb cb mb xb fb : Nat} {S : List Nat} {Cs : List CallD} {tm : Int → Option Int} {ch : Int × Int → Option Int} {fm : Int → Option (Int × Int)}
end
end Go.Proofs.Ytclkahggfdnpgaa
set_option linter.unusedVariables false
set_option linter.unusedSimpArgs false
namespace Go.Proofs.Ytclkahggfdnpgaa
open Go.RowKit
/-- A node as it lies. -/
structure RND where
  lives : Bool
  tp : Nat
  par : Int
  ev : Int
  a : Option Addr
  c : Nat
  m : List MarkD
deriving Inhabited
def RND.cells (x : RND) : List Value := [.bool x.lives, .int .i64 x.tp, .int .i64 x.par, .int .i64 x.ev, .slice x.a x.m.length x.c]
theorem rnd_len (x : RND) : x.cells.length = 5 := rfl
/-- The document's tree. -/
structure RefD where
  fa : Option Addr
  fc : Nat
  Fs : List FlatD
  ca : Option Addr
  cc : Nat
  Cs : List CallD
  lv : Value
  L : List RND
def RefD.cs (R : RefD) : Nat → List Value := fun i => (R.L.getD i default).cells
def RefD.blocks (R : RefD) (rb : Nat) : List Nat := rb :: R.lv.ownBlock.toList
def Holds (a : Option Addr) (n g : Nat) : Prop := 0 < n ∧ ∃ o, a = some ⟨g, o, none⟩
/-- A block that the document's tree only reads. -/
def RefD.foot (R : RefD) (g : Nat) : Prop :=
  Holds R.fa R.Fs.length g ∨ (∃ f ∈ R.Fs, Holds f.ea f.en g ∨ Holds f.ta f.tn g) ∨ Holds R.ca R.Cs.length g ∨ ∃ x ∈ R.L, Holds x.a x.m.length g
def UniqC (Cs : List CallD) : Prop := ∀ i j, i < Cs.length → j < Cs.length → (Cs.getD i default).key = (Cs.getD j default).key → i = j
structure RefAt (w : World) (rb : Nat) (R : RefD) : Prop where
  head : Row w rb [.slice R.fa R.Fs.length R.fc, .slice R.ca R.Cs.length R.cc, R.lv] 90
  rows : RowsAt w R.fa R.Fs.length 2 (fun i => (R.Fs.getD i default).cells)
  flats : ∀ f ∈ R.Fs, FlatAt w f
  calls : RowsAt w R.ca R.Cs.length 4 (fun i => (R.Cs.getD i default).cells)
  own : w.ownsRow 0 125 5 R.lv R.L.length (flatC R.cs R.L.length)
  mks : ∀ x ∈ R.L, MarksAt w x.a x.m.length x.m
  apart : ∀ g, R.foot g → g ∉ R.blocks rb
  sep : R.lv.ownBlock ≠ some rb
  few : R.L.length ≤ 900
  en : ∀ f ∈ R.Fs, f.en ≤ 10
  uq : UniqC R.Cs
  cf : R.Cs.length ≤ 20
theorem RowsAt.holds {w : World} {a : Option Addr} {n k g : Nat} {C : Nat → List Value} (h : RowsAt w a n k C) (hh : Holds a n g) : g < w.heap.size := by
  obtain ⟨h0, o, ho⟩ := hh
  exact h.lt g o h0 ho
theorem RowsAt.frH {w w' : World} {a : Option Addr} {n k : Nat} {C : Nat → List Value} {S : List Nat} (h : RowsAt w a n k C) (f : Fr S w w') (hS : ∀ g, Holds a n g → g ∉ S) : RowsAt w' a n k C := by
  refine ⟨fun h0 => ?_⟩
  obtain ⟨b, o, he, hb, hc⟩ := h.at_ h0
  refine ⟨b, o, he, Nat.lt_of_lt_of_le hb f.size, fun i hi j v hj => ?_⟩
  rw [World.cell?_of_block (f.block b hb (hS b ⟨h0, o, he⟩))]
  exact hc i hi j v hj
theorem RefAt.foot_lt {w : World} {rb : Nat} {R : RefD} (h : RefAt w rb R) {g : Nat} (hg : R.foot g) : g < w.heap.size := by
  rcases hg with hg | ⟨f, hf, hg | hg⟩ | hg | ⟨x, hx, hg⟩
  · exact h.rows.holds hg
  · exact (h.flats f hf).evs.2.holds hg
  · exact (h.flats f hf).ties.2.holds hg
  · exact h.calls.holds hg
  · exact (h.mks x hx).2.holds hg
theorem RefAt.block_lt {w : World} {rb : Nat} {R : RefD} (h : RefAt w rb R) {g : Nat} (hg : g ∈ R.blocks rb) : g < w.heap.size := by
  rcases List.mem_cons.1 hg with rfl | hg
  · exact h.head.lt
  · exact (h.own.lt g (by simpa using hg)).2
/-- What others do. -/
theorem RefAt.frO {w w' : World} {rb : Nat} {R : RefD} {S : List Nat} (h : RefAt w rb R) (f : Fr S w w') (h1 : ∀ g, R.foot g → g ∉ S) (h2 : ∀ g ∈ R.blocks rb, g ∉ S) : RefAt w' rb R := by
  refine ⟨h.head.fr f (h2 rb (List.mem_cons_self ..)), h.rows.frH f (fun g hg => h1 g (.inl hg)), fun x hx => ?_, h.calls.frH f (fun g hg => h1 g (.inr (.inr (.inl hg)))), own_frS h.own f (fun y hy => h2 y (List.mem_cons_of_mem _ (by simpa using hy))), fun x hx => ⟨(h.mks x hx).1, (h.mks x hx).2.frH f (fun g hg => h1 g (.inr (.inr (.inr ⟨x, hx, hg⟩))))⟩, h.apart, h.sep, h.few, h.en, h.uq, h.cf⟩
  have hf := h.flats x hx
  exact ⟨⟨hf.evs.1, hf.evs.2.frH f (fun g hg => h1 g (.inr (.inl ⟨x, hx, .inl hg⟩)))⟩, ⟨hf.ties.1, hf.ties.2.frH f (fun g hg => h1 g (.inr (.inl ⟨x, hx, .inr hg⟩)))⟩, hf.few, hf.few2⟩
theorem RefAt.fr {w w' : World} {rb : Nat} {R : RefD} (h : RefAt w rb R) (f : Fr [] w w') : RefAt w' rb R := h.frO f (by simp) (by simp)
/-- A tree behind an act of its own. -/
def NextR (rb : Nat) (R R' : RefD) (w w' : World) : Prop := RefAt w' rb R' ∧ Fr (R.blocks rb) w w' ∧ (∀ y ∈ R'.blocks rb, y ∈ R.blocks rb ∨ w.heap.size ≤ y) ∧ ∀ g, R'.foot g → R.foot g ∨ w.heap.size ≤ g
theorem NextR.refl {w w' : World} {rb : Nat} {R : RefD} (h : RefAt w rb R) (f : Fr [] w w') : NextR rb R R w w' := ⟨h.fr f, f.mono (by simp), fun y hy => .inl hy, fun g hg => .inl hg⟩
theorem NextR.pre {w w1 w' : World} {rb : Nat} {R R' : RefD} (h : NextR rb R R' w1 w') (f : Fr [] w w1) : NextR rb R R' w w' :=
  ⟨h.1, (f.mono (by simp)).trans h.2.1 (fun y hy => .inl hy), fun y hy => by rcases h.2.2.1 y hy with h1 | h1; exact .inl h1; exact .inr (Nat.le_trans f.size h1), fun g hg => by rcases h.2.2.2 g hg with h1 | h1; exact .inl h1; exact .inr (Nat.le_trans f.size h1)⟩
theorem NextR.post {w w1 w' : World} {rb : Nat} {R R' : RefD} (h : NextR rb R R' w w1) (f : Fr [] w1 w') : NextR rb R R' w w' :=
  ⟨h.1.fr f, h.2.1.trans f (by simp), h.2.2⟩
theorem NextR.trans {w w1 w2 : World} {rb : Nat} {R R1 R2 : RefD} (h : NextR rb R R1 w w1) (k : NextR rb R1 R2 w1 w2) : NextR rb R R2 w w2 :=
  ⟨k.1, h.2.1.trans k.2.1 h.2.2.1, fun y hy => by
    rcases k.2.2.1 y hy with h1 | h1
    · exact h.2.2.1 y h1
    · exact .inr (Nat.le_trans h.2.1.size h1), fun g hg => by
    rcases k.2.2.2 g hg with h1 | h1
    · exact h.2.2.2 g h1
    · exact .inr (Nat.le_trans h.2.1.size h1)⟩
/-- What is known of it without its places. -/
def RND.pi (x : RND) (i : Nat) : PI := ⟨i, x.tp, x.m, x.par, x.ev⟩
def liveN (L : List RND) (j : Nat) : List PI := (List.range j).filterMap (fun i => if (L.getD i default).lives then some ((L.getD i default).pi i) else none)
def RefD.pl (R : RefD) : PT := ⟨R.Fs.map FlatD.nrm, callsM R.Cs R.Cs.length, liveN R.L R.L.length, R.L.length⟩
theorem liveN_succ (L : List RND) (j : Nat) : liveN L (j + 1) = liveN L j ++ (if (L.getD j default).lives then [(L.getD j default).pi j] else []) := by
  unfold liveN
  rw [List.range_succ, List.filterMap_append]
  congr 1
  simp only [List.filterMap_cons, List.filterMap_nil]
  by_cases h : (L.getD j default).lives = true
  · rw [if_pos h, if_pos h]
  · rw [if_neg h, if_neg h]
def livesB (L : List RND) (id : Int) : Bool := decide (id ≥ 0) && (decide (id < L.length) && (L.getD id.toNat default).lives)
theorem liveN_mem {L : List RND} {j : Nat} {x : PI} : x ∈ liveN L j ↔ ∃ i, i < j ∧ (L.getD i default).lives = true ∧ x = (L.getD i default).pi i := by
  unfold liveN
  rw [List.mem_filterMap]
  constructor
  · rintro ⟨i, hi, h⟩
    split at h
    · rename_i hl
      simp only [Option.some.injEq] at h
      exact ⟨i, List.mem_range.1 hi, hl, h.symm⟩
    · cases h
  · rintro ⟨i, hi, hl, rfl⟩
    exact ⟨i, List.mem_range.2 hi, by rw [if_pos hl]⟩
theorem ref_of {R : RefD} {id : Int} (h : livesB R.L id = true) : R.pl.of id = some ((R.L.getD id.toNat default).pi id.toNat) := by
  unfold livesB at h
  rw [Bool.and_eq_true, Bool.and_eq_true, decide_eq_true_iff, decide_eq_true_iff] at h
  obtain ⟨h1, h2, h3⟩ := h
  have hm : (R.L.getD id.toNat default).pi id.toNat ∈ R.pl.L := liveN_mem.2 ⟨id.toNat, by omega, h3, rfl⟩
  have hid : ((R.L.getD id.toNat default).pi id.toNat).id = id := by show ((id.toNat : Nat) : Int) = id; omega
  have hs : (R.pl.L.map (·.id)).Pairwise (· < ·) := by
    show ((liveN R.L R.L.length).map (·.id)).Pairwise (· < ·)
    generalize R.L.length = j
    induction j with
    | zero => simp [liveN]
    | succ j ih =>
      rw [liveN_succ, List.map_append, List.pairwise_append]
      refine ⟨ih, by split <;> simp, fun a ha b hb => ?_⟩
      obtain ⟨x, hx, rfl⟩ := List.mem_map.1 ha
      obtain ⟨i, hi, _, rfl⟩ := liveN_mem.1 hx
      split at hb
      · simp at hb
        rw [hb]
        show ((i : Nat) : Int) < ((j : Nat) : Int)
        omega
      · simp at hb
  have := of_some hs hm
  rw [hid] at this
  exact this
theorem ref_of_none {R : RefD} {id : Int} (h : livesB R.L id = false) : R.pl.of id = none := by
  rw [of_none]
  intro x hx he
  obtain ⟨i, hi, hl, rfl⟩ := liveN_mem.1 hx
  have he' : ((i : Nat) : Int) = id := he
  unfold livesB at h
  rw [decide_eq_true (show id ≥ 0 by omega), decide_eq_true (show id < (R.L.length : Int) by omega), show id.toNat = i by omega, hl] at h
  cases h
/-- A node's cells. -/
theorem RefAt.node {w : World} {rb : Nat} {R : RefD} (h : RefAt w rb R) {i : Nat} (hi : i < R.L.length) : ∃ g c, R.lv = .slice (some ⟨g, 0, none⟩) R.L.length c ∧ R.L.length ≤ c ∧ g < w.heap.size ∧ ∀ j v, (R.L.getD i default).cells[j]? = some v → w.cell? ⟨g, i * 5 + j, none⟩ = some v := by
  rcases h.own.2 with ⟨_, h0⟩ | ⟨g, cap, cur, hv, hb, hg, hn, hcm, hcs, ht⟩
  · omega
  · refine ⟨g, cap, hv, hn, (Array.getElem?_eq_some_iff.1 hg).1, fun j v hj => ?_⟩
    have hjk : j < 5 := (List.getElem?_eq_some_iff.1 hj).1
    have h2 : i * 5 + 5 ≤ R.L.length * 5 := by omega
    rw [cell_of_row w g _ _ _ _ hg, ← Array.getElem?_toList, ← List.take_append_drop (R.L.length * 5) cur.toList, ht, List.getElem?_append_left (by rw [flatC_length (C := R.cs) (k := 5) (fun i => rnd_len _)]; omega), flatC_at (C := R.cs) (k := 5) (fun i => rnd_len _) R.L.length i j hi hjk]
    exact hj
theorem RefAt.lvform {w : World} {rb : Nat} {R : RefD} (h : RefAt w rb R) : ∃ a c, R.lv = .slice a R.L.length c := by
  obtain ⟨a, c, h1, _⟩ := rowsB_of_own (fun i => rnd_len _) h.own
  exact ⟨a, c, h1⟩
end Go.Proofs.Ytclkahggfdnpgaa
set_option linter.unusedVariables false
set_option linter.unusedSimpArgs false
namespace Go.Proofs.Ytclkahggfdnpgaa
open Go.RowKit
set_option maxHeartbeats 1000000 in
set_option maxRecDepth 100000 in
theorem rlives_any (rb : Nat) (R : RefD) (id : Int) (w : World) (h : RefAt w rb R) :
    Calls Try.prog 79 #[.pointer (some ⟨rb, 0, none⟩), .int .i64 id] w fun e w' => e = .returned (.bool (livesB R.L id)) ∧ Fr [] w w' := by
  obtain ⟨a, c, hv⟩ := h.lvform
  have r2 : w.cell? ⟨rb, 2, none⟩ = some (.slice a R.L.length c) := by rw [← hv]; exact h.head.cell 2
  have HH := Lib.hid h
  have HV := Lib.hid hv
  have hfew := h.few
  obtain ⟨n, hn⟩ : ∃ n, n = R.L.length := ⟨_, rfl⟩
  rw [← hn] at r2 hfew
  have HN := Lib.hid hn
  by_cases h0 : id < 0
  · have d0 : decide (id ≥ 0) = false := decide_eq_false (by omega)
    have hl : livesB R.L id = false := by unfold livesB; rw [d0]; rfl
    have HL := Lib.hid hl
    clear h hv hn h0 hl
    go_enter Try.func79, Try.ntmps79
    go_wp2_with fail
    go_ret
    exact ⟨ret_bool HL.out.symm, Fr.refl _ _⟩
  obtain ⟨k, rfl⟩ : ∃ k : Nat, id = k := Int.eq_ofNat_of_zero_le (by omega)
  by_cases hk : k < n
  · have dk : decide (k < n) = true := decide_eq_true hk
    obtain ⟨g, c2, hv2, _, _, hc⟩ := h.node (i := k) (by omega)
    rw [hv] at hv2
    simp only [Value.slice.injEq] at hv2
    obtain ⟨rfl, _, rfl⟩ := hv2
    have hl : livesB R.L (k : Int) = (R.L.getD k default).lives := by
      unfold livesB
      rw [decide_eq_true (show (k : Int) ≥ 0 by omega), decide_eq_true (show (k : Int) < (R.L.length : Int) by omega), Int.toNat_natCast]
      rfl
    have x0 : w.cell? ⟨g, k * 5, none⟩ = some (.bool (R.L.getD k default).lives) := hc 0 _ rfl
    rw [hl]
    generalize (R.L.getD k default).lives = b at x0
    clear h hv hn hl hc h0
    go_enter Try.func79, Try.ntmps79
    go_wp2_with fail
    go_ret
    exact ⟨rfl, Fr.refl _ _⟩
  · have dk : decide (k < n) = false := decide_eq_false hk
    have hl : livesB R.L (k : Int) = false := by
      unfold livesB
      rw [decide_eq_false (show ¬ (k : Int) < (R.L.length : Int) by omega)]
      simp
    have HL := Lib.hid hl
    clear h hv hn hl h0 hk
    go_enter Try.func79, Try.ntmps79
    go_wp2_with fail
    go_ret
    exact ⟨ret_bool HL.out.symm, Fr.refl _ _⟩
theorem lives_at {L : List RND} {id : Int} (h : livesB L id = true) : ∃ k : Nat, id = k ∧ k < L.length ∧ (L.getD k default).lives = true := by
  unfold livesB at h
  rw [Bool.and_eq_true, Bool.and_eq_true, decide_eq_true_iff, decide_eq_true_iff] at h
  obtain ⟨h1, h2, h3⟩ := h
  exact ⟨id.toNat, by omega, by omega, h3⟩
/-- What Marking tells. -/
def RMarkP (R : RefD) (id : Int) (w : World) (e : Ending) (w' : World) : Prop :=
  (livesB R.L id = false ∧ e = .returned (.tuple #[.slice none 0 0, .bool false]) ∧ Fr [] w w') ∨
  (livesB R.L id = true ∧ ∃ k : Nat, id = k ∧ k < R.L.length ∧ e = .returned (.tuple #[.slice (R.L.getD k default).a (R.L.getD k default).m.length (R.L.getD k default).c, .bool true]) ∧ Fr [] w w')
set_option maxHeartbeats 1000000 in
set_option maxRecDepth 100000 in
theorem rmarking_any (rb : Nat) (R : RefD) (id : Int) (w : World) (h : RefAt w rb R) :
    Calls Try.prog 59 #[.pointer (some ⟨rb, 0, none⟩), .int .i64 id] w (RMarkP R id w) := by
  have C1 := rlives_any rb R id w h
  have HH := Lib.hid h
  by_cases hl : livesB R.L id = true
  · rw [hl] at C1
    have HL := Lib.hid hl
    obtain ⟨k, rfl, hk, _⟩ := lives_at hl
    have hfew := h.few
    obtain ⟨n, hn⟩ : ∃ n, n = R.L.length := ⟨_, rfl⟩
    rw [← hn] at hk hfew
    have HN := Lib.hid hn
    have dk : decide (k < n) = true := decide_eq_true hk
    clear h hl hn
    go_enter Try.func59, Try.ntmps59
    go_wp2_with fail
    refine C1.mono ?_
    rintro e w1 ⟨rfl, hF⟩
    have F1 := Lib.hid hF
    have h1 := HH.out.fr hF
    obtain ⟨g, c, hv, _, _, hc⟩ := h1.node (i := k) (by rw [← HN.out]; exact hk)
    have r2 : w1.cell? ⟨rb, 2, none⟩ = some (.slice (some ⟨g, 0, none⟩) n c) := by rw [HN.out, ← hv]; exact h1.head.cell 2
    obtain ⟨x, hx⟩ : ∃ x, R.L.getD k default = x := ⟨_, rfl⟩
    rw [hx] at hc
    have HX := Lib.hid hx
    have x4 : w1.cell? ⟨g, k * 5 + 4, none⟩ = some (.slice x.a x.m.length x.c) := hc 4 _ rfl
    clear hF h1 hv hc hx C1
    go_wp2_with fail
    go_ret2
    exact .inr ⟨HL.out, k, rfl, by rw [← HN.out]; exact hk, by rw [HX.out]; rfl, F1.out⟩
  · have hl : livesB R.L id = false := by simpa using hl
    rw [hl] at C1
    have HL := Lib.hid hl
    clear h hl
    go_enter Try.func59, Try.ntmps59
    go_wp2_with fail
    refine C1.mono ?_
    rintro e w1 ⟨rfl, hF⟩
    have F1 := Lib.hid hF
    clear hF C1
    go_wp2_with fail
    go_ret2
    exact .inl ⟨HL.out, rfl, F1.out⟩
set_option maxHeartbeats 1000000 in
set_option maxRecDepth 100000 in
theorem rdepth_any (rb : Nat) (R : RefD) (id : Int) (w : World) {q : Nat} (h : RefAt w rb R) (g : GoodP R.pl q) (hq : q ≤ 900) :
    Calls Try.prog 53 #[.pointer (some ⟨rb, 0, none⟩), .int .i64 id] w fun e w' => e = .returned (.int .i64 (R.pl.depth id)) ∧ Fr [] w w' := by
  have C1 := rlives_any rb R id w h
  have HH := Lib.hid h
  have HG := Lib.hid g
  by_cases hl : livesB R.L id = true
  · rw [hl] at C1
    have HL := Lib.hid hl
    have hx := of_mem (ref_of hl)
    have HD := Lib.hid (g.depth_ok hq hx.1)
    have hid0 : 0 ≤ id := by rw [← hx.2]; exact (g.lo _ hx.1).1
    have HM := Lib.hid (show ∃ y ∈ R.pl.L, y.id = id from ⟨_, hx⟩)
    have hdp := g.depth_ok hq hx.1
    rw [hx.2] at hdp
    obtain ⟨dd, hdd⟩ : ∃ d, R.pl.depth id = d := ⟨_, rfl⟩
    rw [hdd] at hdp ⊢
    obtain ⟨hd0, hd7, _⟩ := hdp
    have HDD := Lib.hid hdd
    have hfew := h.few
    obtain ⟨n, hn⟩ : ∃ n, n = R.L.length := ⟨_, rfl⟩
    rw [← hn] at hfew
    have HN := Lib.hid hn
    clear h g hl hx hdd hn
    go_enter Try.func53, Try.ntmps53
    go_wp2_with fail
    refine C1.mono ?_
    rintro e w1 ⟨rfl, hF⟩
    have F1 := Lib.hid hF
    clear hF C1
    go_wp2_with fail
    go_loopg [1, 5] id.toNat (fun k iv nv wr => ∃ i m : Int, iv = .int .i64 i ∧ nv = .int .i64 m ∧ k = i.toNat ∧ (∃ y ∈ R.pl.L, y.id = i) ∧ R.pl.depth i + m = dd ∧ 0 ≤ m ∧ Fr [] w wr)
    case atStart => exact ⟨id, 0, rfl, rfl, rfl, HM.out, by rw [HDD.out]; omega, by omega, F1.out⟩
    case round =>
      obtain ⟨i, m, rfl, rfl, rfl, hy, hdm, hm0, hF⟩ := hrel
      obtain ⟨y, hyL, hyi⟩ := hy
      have F := Lib.hid hF
      have hyd := HG.out.depth_ok hq hyL
      have hys := HG.out.depth_step hq hyL
      have hyl := HG.out.lo y hyL
      rw [hyi] at hyd hys hyl
      by_cases hi : i = 0
      · subst hi
        have hm : m = dd := by have := hyd.2.2.2 rfl; omega
        have HMM := Lib.hid hm
        clear hF hyd hys hyl hyi hm hdm
        go_wp2_with fail
        go_ret
        exact ⟨by rw [← HMM.out]; rfl, F.out⟩
      · have d1 : decide (i > 0) = true := decide_eq_true (by omega)
        obtain ⟨hp0, hp1, _, z, hz, hzi, _⟩ := HG.out.par y hyL (by omega)
        obtain ⟨k, hk, hlv, rfl⟩ := liveN_mem.1 hyL
        have hik : i = (k : Int) := hyi.symm
        subst hik
        have h1 := HH.out.fr hF
        obtain ⟨g, c, hv, _, _, hc⟩ := h1.node (i := k) hk
        have r2 : wr.cell? ⟨rb, 2, none⟩ = some (.slice (some ⟨g, 0, none⟩) n c) := by rw [HN.out, ← hv]; exact h1.head.cell 2
        obtain ⟨x, hx⟩ : ∃ x, R.L.getD k default = x := ⟨_, rfl⟩
        rw [hx] at hc hys hp0 hp1 hzi
        have x2 : wr.cell? ⟨g, k * 5 + 2, none⟩ = some (.int .i64 x.par) := hc 2 _ rfl
        have dk : decide (k < n) = true := decide_eq_true (by rw [HN.out]; exact hk)
        have hkn : k < n := by rw [HN.out]; exact hk
        have hys' : R.pl.depth (k : Int) = R.pl.depth x.par + 1 := hys
        have hp0' : 0 ≤ x.par := hp0
        have hp1' : x.par < (k : Int) := hp1
        have ZZ := Lib.hid (show ∃ y ∈ R.pl.L, y.id = x.par from ⟨z, hz, hzi⟩)
        have YS := Lib.hid hys'
        have DM := Lib.hid hdm
        have hmb : m ≤ 7 := by have := hyd.1; omega
        clear hF h1 hv hc hyd hys hyl hyi hdm hys' hp0 hp1 hzi hz hlv hk hx hyL
        go_wp2_with fail
        go_roundg x.par.toNat
        case measure => omega
        case rel => exact ⟨x.par, m + 1, rfl, rfl, rfl, ZZ.out, by have := YS.out; have := DM.out; omega, by omega, F.out⟩
  · have hl : livesB R.L id = false := by simpa using hl
    rw [hl] at C1
    have hd : R.pl.depth id = -1 := by
      unfold PT.depth
      rw [show (1000 : Nat) = 999 + 1 from rfl, PT.depthN, ref_of_none hl]
    rw [hd]
    clear h g hl hd
    go_enter Try.func53, Try.ntmps53
    go_wp2_with fail
    refine C1.mono ?_
    rintro e w1 ⟨rfl, hF⟩
    have F1 := Lib.hid hF
    clear hF C1
    go_wp2_with fail
    go_ret
    exact ⟨rfl, F1.out⟩
/-- The first call of an event. -/
def CallR (Cs : List CallD) (x y : Int) (r : Int) : Prop := (r = -1 ∧ ∀ i, i < Cs.length → (Cs.getD i default).key ≠ (x, y)) ∨ ∃ i : Nat, r = i ∧ i < Cs.length ∧ (Cs.getD i default).key = (x, y)
set_option maxHeartbeats 1000000 in
set_option maxRecDepth 100000 in
theorem rcall_any (rb : Nat) (R : RefD) (x y : Int) (w : World) (h : RefAt w rb R) (hc20 : R.Cs.length ≤ 20) :
    Calls Try.prog 80 #[.pointer (some ⟨rb, 0, none⟩), .int .i64 x, .int .i64 y] w fun e w' => ∃ r, e = .returned (.int .i64 r) ∧ CallR R.Cs x y r ∧ Fr [] w w' := by
  have HH := Lib.hid h
  have r1 : w.cell? ⟨rb, 1, none⟩ = some (.slice R.ca R.Cs.length R.cc) := h.head.cell 1
  have R1 := Lib.hid r1
  obtain ⟨n, hn⟩ : ∃ n, n = R.Cs.length := ⟨_, rfl⟩
  rw [← hn] at hc20 R1
  have HN := Lib.hid hn
  obtain ⟨ca, hca⟩ : ∃ c, R.ca = c := ⟨_, rfl⟩
  rw [hca] at R1
  have HCA := Lib.hid hca
  clear h hn r1 hca
  go_enter Try.func80, Try.ntmps80
  go_wp2_with fail
  go_loopg [7] n (fun k i wr => ∃ j : Nat, k = n - j ∧ j ≤ n ∧ i = .int .i64 j ∧ (∀ i, i < j → (R.Cs.getD i default).key ≠ (x, y)) ∧ Fr [] w wr)
  case atStart => exact ⟨0, rfl, by omega, rfl, fun i hi => absurd hi (by omega), Fr.refl _ _⟩
  case round =>
    obtain ⟨j, rfl, hj, rfl, hno, hF⟩ := hrel
    have F := Lib.hid hF
    have NO := Lib.hid hno
    have r1 := cell_fr' R1.out hF
    clear hno
    by_cases hjn : j < n
    · have d1 : decide (j < n) = true := decide_eq_true hjn
      obtain ⟨gt, ot, ha, _, hct⟩ := (HH.out.calls.fr hF).at_ (by rw [← HN.out]; omega)
      have hcx := hct j (by rw [← HN.out]; exact hjn)
      obtain ⟨d, hd⟩ : ∃ d, R.Cs.getD j default = d := ⟨_, rfl⟩
      rw [hd] at hcx
      have HD := Lib.hid hd
      have c0 : wr.cell? ⟨gt, ot + j * 4, none⟩ = some (.int .i64 d.of_) := hcx 0 _ rfl
      have c1 : wr.cell? ⟨gt, ot + j * 4 + 1, none⟩ = some (.int .i64 d.at_) := hcx 1 _ rfl
      have hca2 := HCA.out.symm.trans ha
      subst hca2
      clear hct hcx hd ha hF
      by_cases h1 : d.of_ = x
      · have b1 : (d.of_ == x) = true := by simpa using h1
        by_cases h2 : d.at_ = y
        · have b2 : (d.at_ == y) = true := by simpa using h2
          have HK := Lib.hid (show (R.Cs.getD j default).key = (x, y) by rw [HD.out]; unfold CallD.key; rw [h1, h2])
          clear h1 h2
          go_wp2_with fail
          go_ret
          exact ⟨j, rfl, .inr ⟨j, rfl, by rw [← HN.out]; exact hjn, HK.out⟩, F.out⟩
        · have b2 : (d.at_ == y) = false := by simpa using h2
          have HK := Lib.hid (show (R.Cs.getD j default).key ≠ (x, y) by rw [HD.out]; unfold CallD.key; intro h; simp only [Prod.mk.injEq] at h; exact h2 h.2)
          clear h1 h2
          go_wp2_with fail
          go_roundg (n - (j + 1))
          case measure => omega
          case rel => exact ⟨j + 1, rfl, by omega, rfl, fun i hi => by
            by_cases hij : i = j
            · rw [hij]; exact HK.out
            · exact NO.out i (by omega), F.out⟩
      · have b1 : (d.of_ == x) = false := by simpa using h1
        have HK := Lib.hid (show (R.Cs.getD j default).key ≠ (x, y) by rw [HD.out]; unfold CallD.key; intro h; simp only [Prod.mk.injEq] at h; exact h1 h.1)
        clear h1
        go_wp2_with fail
        go_roundg (n - (j + 1))
        case measure => omega
        case rel => exact ⟨j + 1, rfl, by omega, rfl, fun i hi => by
          by_cases hij : i = j
          · rw [hij]; exact HK.out
          · exact NO.out i (by omega), F.out⟩
    · have d1 : decide (j < n) = false := decide_eq_false hjn
      have hje : j = n := by omega
      have HE := Lib.hid hje
      clear hF hje hjn
      go_wp2_with fail
      go_ret
      exact ⟨-1, rfl, .inl ⟨rfl, fun i hi => NO.out i (by rw [HE.out, HN.out]; exact hi)⟩, F.out⟩
end Go.Proofs.Ytclkahggfdnpgaa
set_option linter.unusedVariables false
set_option linter.unusedSimpArgs false
namespace Go.Proofs.Ytclkahggfdnpgaa
open Go.RowKit
theorem FlatAt.drewN {w : World} {f : FlatD} (h : FlatAt w f) (n : Nat) : FlatAt (w.drewN n) f := h.fr ((Fr.refl [] w).drewN n)
theorem MarksAt.drewN {w : World} {a : Option Addr} {k : Nat} {M : List MarkD} (h : MarksAt w a k M) (n : Nat) : MarksAt (w.drewN n) a k M := h.fr ((Fr.refl [] w).drewN n)
theorem StepsAt.cell {w : World} {b o n : Nat} {L : List Nat} (h : StepsAt w (some ⟨b, o, none⟩) n L) (j : Nat) (hj : j < n) : w.cell? ⟨b, o + j, none⟩ = some (.int .u8 ((L.getD j default : Nat) : Int)) := by
  obtain ⟨b', o', e, _, hc⟩ := h.rows.at_ (by omega)
  obtain ⟨rfl, rfl⟩ : b = b' ∧ o = o' := by simpa using e
  have := hc j hj 0 _ rfl
  rwa [Nat.mul_one, Nat.add_zero] at this
end Go.Proofs.Ytclkahggfdnpgaa
