/- The tree in memory: templates, calls, instances. -/
import Derived.Test.YtclkahggfdnpgaaMkS
import Derived.Test.YtclkahggfdnpgaaMapA
set_option linter.unusedVariables false
set_option linter.unusedSimpArgs false
namespace Go.Proofs.Ytclkahggfdnpgaa
open Go.RowKit
instance : Inhabited FlatD := ⟨⟨none, 0, 0, none, 0, 0, [], []⟩⟩
def FlatD.cells (f : FlatD) : List Value := [.slice f.ea f.en f.ec, .slice f.ta f.tn f.tc]
/-- A call. -/
structure CallD where
  of_ : Int
  at_ : Int
  to_ : Int
  many : Bool
deriving Inhabited, DecidableEq
def CallD.cells (c : CallD) : List Value := [.int .i64 c.of_, .int .i64 c.at_, .int .i64 c.to_, .bool c.many]
def CallD.val (c : CallD) : Value := .agg #[.int .i64 c.of_, .int .i64 c.at_, .int .i64 c.to_, .bool c.many]
/-- An instance as it lies: its block, its number, template, marking, parent, event. -/
structure InsD where
  b : Nat
  id : Int
  tp : Nat
  a : Option Addr
  c : Nat
  m : List MarkD
  par : Int
  ev : Int
deriving Inhabited
def InsD.cells (x : InsD) : List Value := [.int .i64 x.id, .int .i64 x.tp, .slice x.a x.m.length x.c, .int .i64 x.par, .int .i64 x.ev]
def InsD.ptr (x : InsD) : Value := .pointer (some ⟨x.b, 0, none⟩)
/-- Elements of k cells each, in a block from lo on and below hi. -/
structure RowsB (w : World) (lo hi : Nat) (a : Option Addr) (n k : Nat) (C : Nat → List Value) : Prop where
  at_ : 0 < n → ∃ b o, a = some ⟨b, o, none⟩ ∧ b < w.heap.size ∧ lo ≤ b ∧ b < hi ∧ ∀ i, i < n → ∀ j v, (C i)[j]? = some v → w.cell? ⟨b, o + i * k + j, none⟩ = some v
theorem RowsB.rows {w : World} {lo hi : Nat} {a : Option Addr} {n k : Nat} {C : Nat → List Value} (h : RowsB w lo hi a n k C) : RowsAt w a n k C :=
  ⟨fun h0 => by obtain ⟨b, o, h1, h2, _, _, h3⟩ := h.at_ h0; exact ⟨b, o, h1, h2, h3⟩⟩
theorem RowsB.fr {w w' : World} {lo hi : Nat} {a : Option Addr} {n k : Nat} {C : Nat → List Value} {S : List Nat} (h : RowsB w lo hi a n k C) (f : Fr S w w') (hS : ∀ x ∈ S, x < lo ∨ hi ≤ x) : RowsB w' lo hi a n k C := by
  refine ⟨fun h0 => ?_⟩
  obtain ⟨b, o, rfl, hb, h1, h2, hc⟩ := h.at_ h0
  refine ⟨b, o, rfl, Nat.lt_of_lt_of_le hb f.size, h1, h2, fun i hi j v hj => ?_⟩
  rw [World.cell?_of_block (f.block b hb (fun hx => by rcases hS b hx with h | h <;> omega))]
  exact hc i hi j v hj
theorem RowsB.mono {w : World} {lo hi lo' hi' : Nat} {a : Option Addr} {n k : Nat} {C : Nat → List Value} (h : RowsB w lo hi a n k C) (h1 : lo' ≤ lo) (h2 : hi ≤ hi') : RowsB w lo' hi' a n k C :=
  ⟨fun h0 => by obtain ⟨b, o, e, hb, g1, g2, hc⟩ := h.at_ h0; exact ⟨b, o, e, hb, by omega, by omega, hc⟩⟩
/-- A graph whose parts lie from lo on and below hi. -/
structure FlatB (w : World) (lo hi : Nat) (f : FlatD) : Prop where
  el : f.E.length = f.en
  tl : f.T.length = f.tn
  evs : RowsB w lo hi f.ea f.en 6 (fun i => (f.E.getD i default).cells)
  ties : RowsB w lo hi f.ta f.tn 4 (fun i => (f.T.getD i default).cells)
  few : f.en ≤ 100000
  few2 : f.tn ≤ 100000
theorem FlatB.at {w : World} {lo hi : Nat} {f : FlatD} (h : FlatB w lo hi f) : FlatAt w f := ⟨⟨h.el, h.evs.rows⟩, ⟨h.tl, h.ties.rows⟩, h.few, h.few2⟩
theorem FlatB.fr {w w' : World} {lo hi : Nat} {f : FlatD} {S : List Nat} (h : FlatB w lo hi f) (g : Fr S w w') (hS : ∀ x ∈ S, x < lo ∨ hi ≤ x) : FlatB w' lo hi f :=
  ⟨h.el, h.tl, h.evs.fr g hS, h.ties.fr g hS, h.few, h.few2⟩
theorem FlatB.mono {w : World} {lo hi lo' hi' : Nat} {f : FlatD} (h : FlatB w lo hi f) (h1 : lo' ≤ lo) (h2 : hi ≤ hi') : FlatB w lo' hi' f :=
  ⟨h.el, h.tl, h.evs.mono h1 h2, h.ties.mono h1 h2, h.few, h.few2⟩
/-- Templates. -/
structure Tmpl (w : World) (lo hi : Nat) (a : Option Addr) (Fs : List FlatD) : Prop where
  rows : RowsB w lo hi a Fs.length 2 (fun i => (Fs.getD i default).cells)
  flats : ∀ f ∈ Fs, FlatB w lo hi f
theorem Tmpl.fr {w w' : World} {lo hi : Nat} {a : Option Addr} {Fs : List FlatD} {S : List Nat} (h : Tmpl w lo hi a Fs) (g : Fr S w w') (hS : ∀ x ∈ S, x < lo ∨ hi ≤ x) : Tmpl w' lo hi a Fs :=
  ⟨h.rows.fr g hS, fun f hf => (h.flats f hf).fr g hS⟩
def pairK : KeyIn Try.prog 98 (Int × Int) := pairKey Try.prog 98 3 Try.underlying98 Try.underlying3 Try.sizeOf3 Try.isAgg3
/-- A tree. -/
structure TreeD where
  ta : Option Addr
  tc : Nat
  Fs : List FlatD
  cm : Nat
  C : Int × Int → Option CallD
  v : Value
  L : List InsD
  next : Nat
/-- The tree T at block tb; its templates and calls lie below hi, its instances from hi on. -/
structure TreeAt (w : World) (tb hi : Nat) (T : TreeD) : Prop where
  head : Row w tb [.slice T.ta T.Fs.length T.tc, .map (some T.cm), T.v, .int .i64 T.next] 120
  tmpl : Tmpl w (tb + 1) hi T.ta T.Fs
  map : MapA pairK CallD.val w T.cm 1000 T.C
  cmt : T.cm < tb
  tbh : tb < hi
  row : w.ownsRow hi 127 1 T.v T.L.length (T.L.map InsD.ptr)
  ins : ∀ x ∈ T.L, Row w x.b x.cells 130
  mks : ∀ x ∈ T.L, MarksAt w x.a x.m.length x.m
  apart : ∀ x ∈ T.L, 0 < x.m.length → ∀ g o, x.a = some ⟨g, o, none⟩ → T.v.ownBlock ≠ some g
  low : ∀ x ∈ T.L, hi ≤ x.b
  nd : (T.L.map (·.b)).Nodup
  sep : ∀ x ∈ T.L, T.v.ownBlock ≠ some x.b
  few : T.L.length ≤ 40
theorem own_frS {w w' : World} {base : Nat} {e : TypeId} {size n : Nat} {v : Value} {xs : List Value} {S : List Nat} (h : w.ownsRow base e size v n xs) (f : Fr S w w') (hS : ∀ y, v.ownBlock = some y → y ∉ S) : w'.ownsRow base e size v n xs := by
  refine ⟨h.1, ?_⟩
  rcases h.2 with ⟨rfl, rfl⟩ | ⟨g, cap, cur, rfl, hb, hg, r⟩
  · exact .inl ⟨rfl, rfl⟩
  · exact .inr ⟨g, cap, cur, rfl, hb, (f.block g ((Array.getElem?_eq_some_iff.1 hg).1) (hS g rfl)).trans hg, r⟩
theorem TreeAt.fr {w w' : World} {tb hi : Nat} {T : TreeD} (h : TreeAt w tb hi T) (f : Fr [] w w') : TreeAt w' tb hi T :=
  ⟨h.head.fr f (by simp), h.tmpl.fr f (by simp), h.map.fr f (by simp), h.cmt, h.tbh, own_frS h.row f (by simp), fun x hx => (h.ins x hx).fr f (by simp), fun x hx => (h.mks x hx).fr f, h.apart, h.low, h.nd, h.sep, h.few⟩
/-- Marks stay where no block with a flag in it turns. -/
theorem MarksAt.frS {w w' : World} {a : Option Addr} {n : Nat} {M : List MarkD} {S : List Nat} (h : MarksAt w a n M) (f : Fr S w w') (hS : ∀ g ∈ S, ∀ j q, w.cell? ⟨g, j, none⟩ ≠ some (.bool q)) : MarksAt w' a n M := by
  refine ⟨h.1, ⟨fun h0 => ?_⟩⟩
  obtain ⟨b, o, rfl, hb, hc⟩ := h.2.at_ h0
  have hbS : b ∉ S := fun hx => hS b hx _ _ (hc 0 h0 0 _ rfl)
  refine ⟨b, o, rfl, Nat.lt_of_lt_of_le hb f.size, fun i hi j v hj => ?_⟩
  rw [World.cell?_of_block (f.block b hb hbS)]
  exact hc i hi j v hj
theorem TreeAt.nob_head {w : World} {tb hi : Nat} {T : TreeD} (h : TreeAt w tb hi T) : ∀ j q, w.cell? ⟨tb, j, none⟩ ≠ some (.bool q) := by
  intro j q hc
  rw [h.head.cell j] at hc
  have hv : ∀ q, T.v ≠ .bool q := by
    intro q hv
    rcases h.row.2 with ⟨h1, _⟩ | ⟨g, cap, cur, h1, _⟩ <;> rw [hv] at h1 <;> cases h1
  match j with
  | 0 => simp at hc
  | 1 => simp at hc
  | 2 => simp at hc; exact hv _ hc
  | 3 => simp at hc
  | j + 4 => simp at hc
theorem TreeAt.nob_ins {w : World} {tb hi : Nat} {T : TreeD} (h : TreeAt w tb hi T) {x : InsD} (hx : x ∈ T.L) : ∀ j q, w.cell? ⟨x.b, j, none⟩ ≠ some (.bool q) := by
  intro j q hc
  rw [(h.ins x hx).cell j] at hc
  unfold InsD.cells at hc
  match j with
  | 0 => simp at hc
  | 1 => simp at hc
  | 2 => simp at hc
  | 3 => simp at hc
  | 4 => simp at hc
  | j + 5 => simp at hc
/-- An instance's cells, its pointer. -/
theorem TreeAt.ptr {w : World} {tb hi : Nat} {T : TreeD} (h : TreeAt w tb hi T) {i : Nat} (hi' : i < T.L.length) : ∃ g c, T.v = .slice (some ⟨g, 0, none⟩) T.L.length c ∧ T.L.length ≤ c ∧ w.cell? ⟨g, i, none⟩ = some (T.L.getD i default).ptr ∧ hi ≤ g ∧ g < w.heap.size := by
  rcases h.row.2 with ⟨_, h0⟩ | ⟨g, cap, cur, hv, hb, hg, hn, hcm, hcs, ht⟩
  · omega
  · refine ⟨g, cap, hv, hn, ?_, hb, (Array.getElem?_eq_some_iff.1 hg).1⟩
    rw [cell_of_row w g i _ _ _ hg, ← Array.getElem?_toList, ← List.take_append_drop (T.L.length * 1) cur.toList, ht, List.getElem?_append_left (by simp; exact hi'), List.getElem?_map, getD_at _ _ hi']
    rfl
theorem getD_memD {α : Type} [Inhabited α] (L : List α) (i : Nat) (h : i < L.length) : L.getD i default ∈ L := by
  have h2 := getD_at L i h
  exact List.mem_of_getElem? h2
theorem TreeAt.cellI {w : World} {tb hi : Nat} {T : TreeD} (h : TreeAt w tb hi T) {x : InsD} (hx : x ∈ T.L) (j : Nat) : w.cell? ⟨x.b, j, none⟩ = x.cells[j]? := (h.ins x hx).cell j
end Go.Proofs.Ytclkahggfdnpgaa
