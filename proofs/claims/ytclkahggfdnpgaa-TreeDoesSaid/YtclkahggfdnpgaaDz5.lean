/- Parts of the proof: MapA, Tr1, Tr2. (Merged by pack.py.) -/
import Derived.Test.YtclkahggfdnpgaaDz1
import Derived.MapKept
import Derived.ChangeMaps
import Derived.Test.YtclkahggfdnpgaaDz4
set_option linter.unusedVariables false
set_option linter.unusedSimpArgs false
namespace Go.Proofs.Ytclkahggfdnpgaa
open Go.ChangeMaps (setBlock heap_setBlock_same heap_setBlock_other)
/-- How the values of a key's type stand for plain ones. -/
structure KeyIn (P : Program) (k : TypeId) (κ : Type) [DecidableEq κ] where
  enc : κ → Value
  check : ∀ (e : Bool) (a : κ) (w : World), (Instr.checkKey e 10000 k (enc a)).run P w = .ok () w
  eqs : ∀ (a b : κ) (w : World), (Op.equal k (enc a) (enc b)).run P w = .ok (decide (a = b)) w
  now : ∀ (d : TypeDesc) (a b : κ), P.underlying k = some d → Instr.sameNow d (enc a) (enc b) = none ∨ Instr.sameNow d (enc a) (enc b) = some (decide (a = b))
  stays : ∀ a, Instr.sameBits 10000 (enc a) (enc a) = true
section
variable {P : Program} {k e t : TypeId} {κ α : Type} [DecidableEq κ] (K : KeyIn P k κ) (val : α → Value)
def pairsOf (es : List MapEntry) (L : List (κ × α)) : Prop := es.map (fun x => (x.key, x.val)) = L.map fun p => (K.enc p.1, val p.2)
variable {K val}
theorem pairs_cons {x : MapEntry} {es : List MapEntry} {L : List (κ × α)} (h : pairsOf K val (x :: es) L) : ∃ p L', L = p :: L' ∧ x.key = K.enc p.1 ∧ x.val = val p.2 ∧ pairsOf K val es L' := by
  cases L with
  | nil => simp [pairsOf] at h
  | cons p L' =>
    simp [pairsOf] at h
    exact ⟨p, L', rfl, h.1.1, h.1.2, h.2⟩
theorem idx_cons_ne {L : List (κ × α)} {p : κ × α} {a : κ} (i : Nat) (hp : ¬ p.1 = a) :
    (((p :: L).findIdx? fun p => decide (p.1 = a)).bind fun j => ((p :: L)[j]?).map fun p => (i + j, val p.2)) = (L.findIdx? fun p => decide (p.1 = a)).bind fun j => (L[j]?).map fun p => (i + 1 + j, val p.2) := by
  rw [List.findIdx?_cons, decide_eq_false hp]
  cases hf : L.findIdx? fun p => decide (p.1 = a) with
  | none => simp
  | some j => simp [show i + (j + 1) = i + 1 + j by omega]
theorem idx_cons_eq {L : List (κ × α)} {p : κ × α} (i : Nat) :
    (((p :: L).findIdx? fun q => decide (q.1 = p.1)).bind fun j => ((p :: L)[j]?).map fun p => (i + j, val p.2)) = some (i, val p.2) := by
  rw [List.findIdx?_cons]
  simp
theorem find_asking (a : κ) (w : World) : ∀ (es : List MapEntry) (L : List (κ × α)) (i : Nat), pairsOf K val es L →
    (Instr.findAsking k (K.enc a) es i).run P w = .ok ((L.findIdx? fun p => decide (p.1 = a)).bind fun j => (L[j]?).map fun p => (i + j, val p.2)) w := by
  intro es
  induction es with
  | nil =>
    intro L i h
    cases L with
    | nil => simp [Instr.findAsking]
    | cons p L => simp [pairsOf] at h
  | cons x es ih =>
    intro L i h
    obtain ⟨p, L', rfl, hk, hv, hr⟩ := pairs_cons h
    have h1 := K.eqs a p.1 w
    by_cases hp : p.1 = a
    · subst hp
      rw [idx_cons_eq]
      rw [decide_eq_true rfl] at h1
      simp [Instr.findAsking, hk, h1, hv]
    · rw [idx_cons_ne i hp]
      rw [decide_eq_false (fun e => hp e.symm)] at h1
      simp [Instr.findAsking, hk, h1, ih L' (i + 1) hr]
theorem find_now (d : TypeDesc) (hd : P.underlying k = some d) (a : κ) : ∀ (es : List MapEntry) (L : List (κ × α)) (i : Nat), pairsOf K val es L →
    Instr.findNow d (K.enc a) es i = none ∨ Instr.findNow d (K.enc a) es i = some ((L.findIdx? fun p => decide (p.1 = a)).bind fun j => (L[j]?).map fun p => (i + j, val p.2)) := by
  intro es
  induction es with
  | nil =>
    intro L i h
    cases L with
    | nil => right; simp [Instr.findNow]
    | cons p L => simp [pairsOf] at h
  | cons x es ih =>
    intro L i h
    obtain ⟨p, L', rfl, hk, hv, hr⟩ := pairs_cons h
    rcases K.now d a p.1 hd with h1 | h1
    · left
      simp [Instr.findNow, hk, h1]
    · by_cases hp : p.1 = a
      · right
        subst hp
        rw [idx_cons_eq]
        rw [decide_eq_true rfl] at h1
        simp [Instr.findNow, hk, h1, hv]
      · rw [idx_cons_ne i hp]
        rw [decide_eq_false (fun e => hp e.symm)] at h1
        have e1 : Instr.findNow d (K.enc a) (x :: es) i = Instr.findNow d (K.enc a) es (i + 1) := by simp [Instr.findNow, hk, h1]
        rw [e1]
        exact ih L' (i + 1) hr
theorem find_key {d : TypeDesc} (hd : P.underlying k = some d) (a : κ) (w : World) (es : List MapEntry) (L : List (κ × α)) (h : pairsOf K val es L) :
    (Instr.findKey k (K.enc a) es).run P w = .ok ((L.findIdx? fun p => decide (p.1 = a)).bind fun j => (L[j]?).map fun p => (j, val p.2)) w := by
  have h1 := find_asking (K := K) (val := val) a w es L 0 h
  simp only [Nat.zero_add] at h1
  rcases find_now (K := K) (val := val) d hd a es L 0 h with h2 | h2
  · simp [Instr.findKey, run_underlying hd, h2, h1]
  · simp only [Nat.zero_add] at h2
    simp [Instr.findKey, run_underlying hd, h2]
def lookL (L : List (κ × α)) (x : κ) : Option α := (L.find? fun p => decide (p.1 = x)).map (·.2)
theorem lookL_idx (L : List (κ × α)) (x : κ) : ((L.findIdx? fun p => decide (p.1 = x)).bind fun j => (L[j]?).map fun p => (j, val p.2)) = match L.findIdx? fun p => decide (p.1 = x) with
    | none => none
    | some j => (lookL L x).map fun v => (j, val v) := by
  cases h : L.findIdx? fun p => decide (p.1 = x) with
  | none => rfl
  | some j =>
    have h1 : L.find? (fun p => decide (p.1 = x)) = L[j]? := by
      rw [List.find?_eq_getElem?_findIdx, ← List.findIdx?_eq_some_iff_findIdx_eq.1 h |>.2]
    simp [lookL, h1, Function.comp_def]
theorem lookL_none {L : List (κ × α)} {x : κ} : (L.findIdx? fun p => decide (p.1 = x)) = none ↔ lookL L x = none := by
  unfold lookL
  rw [Option.map_eq_none_iff, List.find?_eq_none, List.findIdx?_eq_none_iff]
  simp
variable (K val)
/-- Block b of w is a map of at most n entries: m. -/
structure MapA (w : World) (b n : Nat) (m : κ → Option α) : Prop where
  ex : ∃ (es : Array MapEntry) (clock : Nat) (L : List (κ × α)), w.heap[b]? = some (.map es clock) ∧ pairsOf K val es.toList L ∧ L.length ≤ n ∧ (L.map (·.1)).Nodup ∧ ∀ x, m x = lookL L x
variable {K val}
variable {w : World} {b n : Nat} {m : κ → Option α}
theorem MapA.lt (h : MapA K val w b n m) : b < w.heap.size := by
  obtain ⟨es, clock, L, h1, _⟩ := h.ex
  exact (Array.getElem?_eq_some_iff.1 h1).1
theorem MapA.fr {w' : World} {S : List Nat} (h : MapA K val w b n m) (f : Fr S w w') (hb : b ∉ S) : MapA K val w' b n m := by
  have hlt := h.lt
  obtain ⟨es, clock, L, h1, r⟩ := h.ex
  exact ⟨es, clock, L, (f.block b hlt hb).trans h1, r⟩
theorem MapA.mono {n' : Nat} (h : MapA K val w b n m) (hn : n ≤ n') : MapA K val w b n' m := by
  obtain ⟨es, clock, L, h1, h2, h3, r⟩ := h.ex
  exact ⟨es, clock, L, h1, h2, Nat.le_trans h3 hn, r⟩
theorem MapA.made (w : World) : MapA K val (w.alloc (.map #[] 0)) w.heap.size 0 (fun _ => none) :=
  ⟨#[], 0, [], heap_alloc_new _ _, rfl, Nat.le_refl _, List.Pairwise.nil, fun x => rfl⟩
theorem MapA.look (h : MapA K val w b n m) {d : TypeDesc} (hd : P.underlying k = some d) (ht : P.underlying t = some (.map k e)) {z : Value} (hz : (zeroValue e).run P w = .ok z w) (x : κ) :
    (Instr.lookup t (.map (some b)) (K.enc x) true).run P w = .ok (.tuple #[((m x).map val).getD z, .bool (m x).isSome]) w := by
  obtain ⟨es, clock, L, h1, h2, _, _, h4⟩ := h.ex
  have hf := find_key hd x w es.toList L h2
  rw [lookL_idx] at hf
  rw [h4 x]
  cases hi : L.findIdx? fun p => decide (p.1 = x) with
  | none =>
    rw [hi] at hf
    have := lookL_none.1 hi
    simp [Instr.lookup, run_underlying ht, MapKept.run_getObj_map h1, K.check, hf, hz, this, Result.andThen]
  | some j =>
    rw [hi] at hf
    cases hl : lookL L x with
    | none => rw [lookL_none.2 hl] at hi; cases hi
    | some v =>
      rw [hl] at hf
      simp at hf
      simp [Instr.lookup, run_underlying ht, MapKept.run_getObj_map h1, K.check, hf, Result.andThen]
theorem MapA.look1 (h : MapA K val w b n m) {d : TypeDesc} (hd : P.underlying k = some d) (ht : P.underlying t = some (.map k e)) {z : Value} (hz : (zeroValue e).run P w = .ok z w) (x : κ) :
    (Instr.lookup t (.map (some b)) (K.enc x) false).run P w = .ok (((m x).map val).getD z) w := by
  obtain ⟨es, clock, L, h1, h2, _, _, h4⟩ := h.ex
  have hf := find_key hd x w es.toList L h2
  rw [lookL_idx] at hf
  rw [h4 x]
  cases hi : L.findIdx? fun p => decide (p.1 = x) with
  | none =>
    rw [hi] at hf
    have := lookL_none.1 hi
    simp [Instr.lookup, run_underlying ht, MapKept.run_getObj_map h1, K.check, hf, hz, this, Result.andThen]
  | some j =>
    rw [hi] at hf
    cases hl : lookL L x with
    | none => rw [lookL_none.2 hl] at hi; cases hi
    | some v =>
      rw [hl] at hf
      simp at hf
      simp [Instr.lookup, run_underlying ht, MapKept.run_getObj_map h1, K.check, hf, Result.andThen]
theorem lookL_set {L : List (κ × α)} {x : κ} {v : α} {j : Nat} (hnd : (L.map (·.1)).Nodup) (hj : L.findIdx? (fun p => decide (p.1 = x)) = some j) :
    ((L.set j (x, v)).map (·.1)) = L.map (·.1) ∧ ∀ y, lookL (L.set j (x, v)) y = if y = x then some v else lookL L y := by
  obtain ⟨hlt, hp, hmin⟩ := List.findIdx?_eq_some_iff_getElem.1 hj
  have hx : L[j].1 = x := by simpa using hp
  refine ⟨?_, fun y => ?_⟩
  · apply List.ext_getElem
    · simp
    · intro i h1 h2
      simp only [List.getElem_map, List.getElem_set]
      split
      · rename_i he; subst he; exact hx.symm
      · rfl
  · clear hmin hp hj
    unfold lookL
    induction L generalizing j with
    | nil => simp at hlt
    | cons p L ih =>
      rw [List.map_cons, List.nodup_cons] at hnd
      cases j with
      | zero =>
        simp only [List.set_cons_zero, List.find?_cons]
        simp only [List.getElem_cons_zero] at hx
        by_cases hy : y = x
        · subst hy; simp
        · rw [if_neg hy]
          have h1 : ¬ x = y := fun e => hy e.symm
          have h2 : ¬ p.1 = y := fun e => hy (e.symm.trans hx)
          simp [h1, h2]
      | succ j =>
        simp only [List.set_cons_succ, List.find?_cons]
        simp only [List.getElem_cons_succ] at hx
        have hlt' : j < L.length := by simpa using hlt
        have hpx : p.1 ≠ x := fun e => hnd.1 (by rw [e, ← hx]; exact List.mem_map.2 ⟨_, List.getElem_mem hlt', rfl⟩)
        by_cases hpy : p.1 = y
        · have hyx : y ≠ x := fun e => hpx (hpy.trans e)
          rw [if_neg hyx]
          simp [hpy]
        · simp only [decide_eq_false hpy]
          exact ih hnd.2 hlt' hx
theorem lookL_snoc {L : List (κ × α)} {x : κ} {v : α} (hn : lookL L x = none) : ∀ y, lookL (L ++ [(x, v)]) y = if y = x then some v else lookL L y := by
  intro y
  unfold lookL at *
  rw [List.find?_append]
  by_cases hy : y = x
  · subst hy
    rw [if_pos rfl]
    rw [Option.map_eq_none_iff] at hn
    rw [hn]
    simp
  · rw [if_neg hy]
    have h1 : ¬ x = y := fun e => hy e.symm
    cases h2 : L.find? (fun p => decide (p.1 = y)) with
    | none => simp [h1]
    | some p => simp
theorem MapA.store (h : MapA K val w b n m) {d : TypeDesc} (hd : P.underlying k = some d) (ht : P.underlying t = some (.map k e)) (x : κ) (v : α) :
    ∃ w', (Instr.mapUpdate t (.map (some b)) (K.enc x) (val v)).run P w = .ok () w' ∧ MapA K val w' b (n + 1) (fun y => if y = x then some v else m y) ∧ Fr [b] w w' := by
  obtain ⟨es, clock, L, h1, h2, h3, hnd, h4⟩ := h.ex
  have hf := find_key hd x w es.toList L h2
  rw [lookL_idx] at hf
  have frm : ∀ o, Fr [b] w (setBlock w b o) := fun o => ⟨rfl, rfl, rfl, by simp [setBlock], fun i hi hne => heap_setBlock_other h1 _ (fun e => hne (by simp [e]))⟩
  cases hi : L.findIdx? fun p => decide (p.1 = x) with
  | none =>
    rw [hi] at hf
    have hno := lookL_none.1 hi
    refine ⟨setBlock w b (.map (es.push ⟨K.enc x, val v, clock⟩) (clock + 1)), ?_, ⟨es.push ⟨K.enc x, val v, clock⟩, clock + 1, L ++ [(x, v)], heap_setBlock_same h1 _, ?_, ?_, ?_, fun y => ?_⟩, frm _⟩
    · simp [Instr.mapUpdate, run_underlying ht, MapKept.run_getObj_map h1, K.check, hf, MapKept.run_setObj_map _ h1, Result.andThen, setBlock]
    · unfold pairsOf at *
      simp [h2]
    · simp; exact h3
    · rw [List.map_append, List.nodup_append]
      refine ⟨hnd, by simp, fun a ha c hc => ?_⟩
      simp at hc
      subst hc
      intro e
      subst e
      obtain ⟨p, hp, hpe⟩ := List.mem_map.1 ha
      rw [List.findIdx?_eq_none_iff] at hi
      have := hi p hp
      simp [hpe] at this
    · rw [lookL_snoc hno y, h4 y]
  | some j =>
    rw [hi] at hf
    cases hl : lookL L x with
    | none => rw [lookL_none.2 hl] at hi; cases hi
    | some v0 =>
      rw [hl] at hf
      simp at hf
      have hlen : es.size = L.length := by
        have := congrArg List.length h2
        simpa using this
      obtain ⟨hlt, hp, _⟩ := List.findIdx?_eq_some_iff_getElem.1 hi
      have hx : L[j].1 = x := by simpa using hp
      have hje : j < es.size := by omega
      have hkey : (es[j]).key = K.enc x := by
        have := congrArg (fun l => l[j]?) h2
        simp [hje, hlt] at this
        rw [this.1, hx]
      obtain ⟨s1, s2⟩ := lookL_set (v := v) hnd hi
      refine ⟨setBlock w b (.map (es.modify j fun e' => { e' with key := K.enc x, val := val v }) clock), ?_, ⟨_, clock, L.set j (x, v), heap_setBlock_same h1 _, ?_, by simp; omega, by rw [s1]; exact hnd, fun y => by rw [s2 y, h4 y]⟩, frm _⟩
      · simp [Instr.mapUpdate, run_underlying ht, MapKept.run_getObj_map h1, K.check, hf, hje, hkey, Instr.keyThatStays, K.stays, MapKept.run_setObj_map _ h1, Result.andThen, setBlock]
      · unfold pairsOf at *
        apply List.ext_getElem
        · simp [hlen]
        · intro i g1 g2
          have h5 := congrArg (fun l => l[i]?) h2
          simp at g1 g2
          simp [g1, g2] at h5
          simp only [List.getElem_map, Array.getElem_toList, Array.getElem_modify, List.getElem_set]
          split
          · rfl
          · simp [h5]
end
/-- Whole numbers as keys. -/
def intKey (P : Program) (k : TypeId) (hk : P.underlying k = some (.int .i64)) : KeyIn P k Int where
  enc a := .int .i64 a
  check e a w := by
    rw [show (10000 : Nat) = 9999 + 1 from rfl, Instr.checkKey]
    simp [run_underlying hk]
  eqs a b w := by
    unfold Op.equal Op.maxDepth
    rw [show (10000 : Nat) = 9999 + 1 from rfl, Op.equalIn]
    simp [run_underlying hk]
    rfl
  now d a b hd := by
    rw [hk] at hd
    cases hd
    right
    simp [Instr.sameNow]
    rfl
  stays a := by simp [Instr.sameBits]
theorem run_part1 {P : Program} {i : TypeId} (ha : ∀ w, (isAgg i).run P w = .ok false w) (cs : Array Value) (j : Nat) (v : Value) (hv : cs[j]? = some v) (w : World) : (part i cs j).run P w = .ok v w := by
  simp [part, ha w, hv]
theorem check_int {P : Program} {i : TypeId} (hi : P.underlying i = some (.int .i64)) (e : Bool) (n : Nat) (a : Int) (w : World) : (Instr.checkKey e (n + 1) i (.int .i64 a)).run P w = .ok () w := by
  rw [Instr.checkKey]
  simp [run_underlying hi]
theorem equal_int {P : Program} {i : TypeId} (hi : P.underlying i = some (.int .i64)) (n : Nat) (a b : Int) (w : World) : (Op.equalIn (n + 1) i (.int .i64 a) (.int .i64 b)).run P w = .ok (a == b) w := by
  rw [Op.equalIn]
  simp [run_underlying hi]
/-- Pairs of whole numbers ([2]int) as keys. -/
def pairKey (P : Program) (k i : TypeId) (hk : P.underlying k = some (.array 2 i)) (hi : P.underlying i = some (.int .i64)) (hs : ∀ w, (sizeOf i).run P w = .ok 1 w) (ha : ∀ w, (isAgg i).run P w = .ok false w) : KeyIn P k (Int × Int) where
  enc a := .agg #[.int .i64 a.1, .int .i64 a.2]
  check e a w := by
    have e2 : List.range' 0 2 = [0, 1] := rfl
    have p0 := run_part1 (P := P) ha #[.int .i64 a.1, .int .i64 a.2] 0 _ rfl w
    have p1 := run_part1 (P := P) ha #[.int .i64 a.1, .int .i64 a.2] 1 _ rfl w
    have c : ∀ v, (Instr.checkKey e 9999 i (.int .i64 v)).run P w = .ok () w := fun v => check_int hi e 9998 v w
    rw [show (10000 : Nat) = 9999 + 1 from rfl, Instr.checkKey]
    simp [run_underlying hk, e2, hs w, p0, p1, c]
  eqs a b w := by
    have e2 : List.range' 0 2 = [0, 1] := rfl
    have p0 := run_part1 (P := P) ha #[.int .i64 a.1, .int .i64 a.2] 0 _ rfl w
    have p1 := run_part1 (P := P) ha #[.int .i64 a.1, .int .i64 a.2] 1 _ rfl w
    have q0 := run_part1 (P := P) ha #[.int .i64 b.1, .int .i64 b.2] 0 _ rfl w
    have q1 := run_part1 (P := P) ha #[.int .i64 b.1, .int .i64 b.2] 1 _ rfl w
    unfold Op.equal Op.maxDepth
    have c : ∀ u v, (Op.equalIn 9999 i (.int .i64 u) (.int .i64 v)).run P w = .ok (u == v) w := fun u v => equal_int hi 9998 u v w
    rw [show (10000 : Nat) = 9999 + 1 from rfl, Op.equalIn]
    obtain ⟨a1, a2⟩ := a
    obtain ⟨b1, b2⟩ := b
    by_cases h1 : a1 = b1
    · subst h1
      by_cases h2 : a2 = b2
      · subst h2
        simp [run_underlying hk, e2, hs w, p0, p1, c]
      · simp [run_underlying hk, e2, hs w, p0, p1, q0, q1, c, beq_eq_false_iff_ne.2 h2, h2]
    · simp [run_underlying hk, e2, hs w, p0, p1, q0, q1, c, beq_eq_false_iff_ne.2 h1, h1]
  now d a b hd := by
    rw [hk] at hd
    cases hd
    left
    simp [Instr.sameNow]
  stays a := by
    rw [show (10000 : Nat) = 9999 + 1 from rfl]
    simp [Instr.sameBits]
end Go.Proofs.Ytclkahggfdnpgaa
set_option linter.unusedVariables false
set_option linter.unusedSimpArgs false
namespace Go.Proofs.Ytclkahggfdnpgaa
open Go.RowKit
instance : Inhabited FlatD := ⟨⟨none, 0, 0, none, 0, 0, [], []⟩⟩
def FlatD.cells (f : FlatD) : List Value := [.slice f.ea f.en f.ec, .slice f.ta f.tn f.tc]
/-- A call. -/
structure CallD where
  of_ : Int
  at_ : Int
  to_ : Int
  many : Bool
deriving Inhabited, DecidableEq
def CallD.cells (c : CallD) : List Value := [.int .i64 c.of_, .int .i64 c.at_, .int .i64 c.to_, .bool c.many]
def CallD.val (c : CallD) : Value := .agg #[.int .i64 c.of_, .int .i64 c.at_, .int .i64 c.to_, .bool c.many]
/-- An instance as it lies: its block, its number, template, marking, parent, event. -/
structure InsD where
  b : Nat
  id : Int
  tp : Nat
  a : Option Addr
  c : Nat
  m : List MarkD
  par : Int
  ev : Int
deriving Inhabited
def InsD.cells (x : InsD) : List Value := [.int .i64 x.id, .int .i64 x.tp, .slice x.a x.m.length x.c, .int .i64 x.par, .int .i64 x.ev]
def InsD.ptr (x : InsD) : Value := .pointer (some ⟨x.b, 0, none⟩)
/-- Elements of k cells each, in a block from lo on and below hi. -/
structure RowsB (w : World) (lo hi : Nat) (a : Option Addr) (n k : Nat) (C : Nat → List Value) : Prop where
  at_ : 0 < n → ∃ b o, a = some ⟨b, o, none⟩ ∧ b < w.heap.size ∧ lo ≤ b ∧ b < hi ∧ ∀ i, i < n → ∀ j v, (C i)[j]? = some v → w.cell? ⟨b, o + i * k + j, none⟩ = some v
theorem RowsB.rows {w : World} {lo hi : Nat} {a : Option Addr} {n k : Nat} {C : Nat → List Value} (h : RowsB w lo hi a n k C) : RowsAt w a n k C :=
  ⟨fun h0 => by obtain ⟨b, o, h1, h2, _, _, h3⟩ := h.at_ h0; exact ⟨b, o, h1, h2, h3⟩⟩
theorem RowsB.fr {w w' : World} {lo hi : Nat} {a : Option Addr} {n k : Nat} {C : Nat → List Value} {S : List Nat} (h : RowsB w lo hi a n k C) (f : Fr S w w') (hS : ∀ x ∈ S, x < lo ∨ hi ≤ x) : RowsB w' lo hi a n k C := by
  refine ⟨fun h0 => ?_⟩
  obtain ⟨b, o, rfl, hb, h1, h2, hc⟩ := h.at_ h0
  refine ⟨b, o, rfl, Nat.lt_of_lt_of_le hb f.size, h1, h2, fun i hi j v hj => ?_⟩
  rw [World.cell?_of_block (f.block b hb (fun hx => by rcases hS b hx with h | h <;> omega))]
  exact hc i hi j v hj
theorem RowsB.mono {w : World} {lo hi lo' hi' : Nat} {a : Option Addr} {n k : Nat} {C : Nat → List Value} (h : RowsB w lo hi a n k C) (h1 : lo' ≤ lo) (h2 : hi ≤ hi') : RowsB w lo' hi' a n k C :=
  ⟨fun h0 => by obtain ⟨b, o, e, hb, g1, g2, hc⟩ := h.at_ h0; exact ⟨b, o, e, hb, by omega, by omega, hc⟩⟩
/-- A graph whose parts lie from lo on and below hi. -/
structure FlatB (w : World) (lo hi : Nat) (f : FlatD) : Prop where
  el : f.E.length = f.en
  tl : f.T.length = f.tn
  evs : RowsB w lo hi f.ea f.en 6 (fun i => (f.E.getD i default).cells)
  ties : RowsB w lo hi f.ta f.tn 4 (fun i => (f.T.getD i default).cells)
  few : f.en ≤ 100000
  few2 : f.tn ≤ 100000
theorem FlatB.at {w : World} {lo hi : Nat} {f : FlatD} (h : FlatB w lo hi f) : FlatAt w f := ⟨⟨h.el, h.evs.rows⟩, ⟨h.tl, h.ties.rows⟩, h.few, h.few2⟩
theorem FlatB.fr {w w' : World} {lo hi : Nat} {f : FlatD} {S : List Nat} (h : FlatB w lo hi f) (g : Fr S w w') (hS : ∀ x ∈ S, x < lo ∨ hi ≤ x) : FlatB w' lo hi f :=
  ⟨h.el, h.tl, h.evs.fr g hS, h.ties.fr g hS, h.few, h.few2⟩
theorem FlatB.mono {w : World} {lo hi lo' hi' : Nat} {f : FlatD} (h : FlatB w lo hi f) (h1 : lo' ≤ lo) (h2 : hi ≤ hi') : FlatB w lo' hi' f :=
  ⟨h.el, h.tl, h.evs.mono h1 h2, h.ties.mono h1 h2, h.few, h.few2⟩
/-- Templates. -/
structure Tmpl (w : World) (lo hi : Nat) (a : Option Addr) (Fs : List FlatD) : Prop where
  rows : RowsB w lo hi a Fs.length 2 (fun i => (Fs.getD i default).cells)
  flats : ∀ f ∈ Fs, FlatB w lo hi f
theorem Tmpl.fr {w w' : World} {lo hi : Nat} {a : Option Addr} {Fs : List FlatD} {S : List Nat} (h : Tmpl w lo hi a Fs) (g : Fr S w w') (hS : ∀ x ∈ S, x < lo ∨ hi ≤ x) : Tmpl w' lo hi a Fs :=
  ⟨h.rows.fr g hS, fun f hf => (h.flats f hf).fr g hS⟩
def pairK : KeyIn Try.prog 98 (Int × Int) := pairKey Try.prog 98 3 Try.underlying98 Try.underlying3 Try.sizeOf3 Try.isAgg3
/-- A tree. -/
structure TreeD where
  ta : Option Addr
  tc : Nat
  Fs : List FlatD
  cm : Nat
  C : Int × Int → Option CallD
  v : Value
  L : List InsD
  next : Nat
/-- The tree T at block tb; its templates and calls lie below hi, its instances from hi on. -/
structure TreeAt (w : World) (tb hi : Nat) (T : TreeD) : Prop where
  head : Row w tb [.slice T.ta T.Fs.length T.tc, .map (some T.cm), T.v, .int .i64 T.next] 120
  tmpl : Tmpl w (tb + 1) hi T.ta T.Fs
  map : MapA pairK CallD.val w T.cm 1000 T.C
  cmt : T.cm < tb
  tbh : tb < hi
  row : w.ownsRow hi 127 1 T.v T.L.length (T.L.map InsD.ptr)
  ins : ∀ x ∈ T.L, Row w x.b x.cells 130
  mks : ∀ x ∈ T.L, MarksAt w x.a x.m.length x.m
  apart : ∀ x ∈ T.L, 0 < x.m.length → ∀ g o, x.a = some ⟨g, o, none⟩ → T.v.ownBlock ≠ some g
  low : ∀ x ∈ T.L, hi ≤ x.b
  nd : (T.L.map (·.b)).Nodup
  sep : ∀ x ∈ T.L, T.v.ownBlock ≠ some x.b
  few : T.L.length ≤ 40
theorem own_frS {w w' : World} {base : Nat} {e : TypeId} {size n : Nat} {v : Value} {xs : List Value} {S : List Nat} (h : w.ownsRow base e size v n xs) (f : Fr S w w') (hS : ∀ y, v.ownBlock = some y → y ∉ S) : w'.ownsRow base e size v n xs := by
  refine ⟨h.1, ?_⟩
  rcases h.2 with ⟨rfl, rfl⟩ | ⟨g, cap, cur, rfl, hb, hg, r⟩
  · exact .inl ⟨rfl, rfl⟩
  · exact .inr ⟨g, cap, cur, rfl, hb, (f.block g ((Array.getElem?_eq_some_iff.1 hg).1) (hS g rfl)).trans hg, r⟩
theorem TreeAt.fr {w w' : World} {tb hi : Nat} {T : TreeD} (h : TreeAt w tb hi T) (f : Fr [] w w') : TreeAt w' tb hi T :=
  ⟨h.head.fr f (by simp), h.tmpl.fr f (by simp), h.map.fr f (by simp), h.cmt, h.tbh, own_frS h.row f (by simp), fun x hx => (h.ins x hx).fr f (by simp), fun x hx => (h.mks x hx).fr f, h.apart, h.low, h.nd, h.sep, h.few⟩
/-- Marks stay where no block with a flag in it turns. -/
theorem MarksAt.frS {w w' : World} {a : Option Addr} {n : Nat} {M : List MarkD} {S : List Nat} (h : MarksAt w a n M) (f : Fr S w w') (hS : ∀ g ∈ S, ∀ j q, w.cell? ⟨g, j, none⟩ ≠ some (.bool q)) : MarksAt w' a n M := by
  refine ⟨h.1, ⟨fun h0 => ?_⟩⟩
  obtain ⟨b, o, rfl, hb, hc⟩ := h.2.at_ h0
  have hbS : b ∉ S := fun hx => hS b hx _ _ (hc 0 h0 0 _ rfl)
  refine ⟨b, o, rfl, Nat.lt_of_lt_of_le hb f.size, fun i hi j v hj => ?_⟩
  rw [World.cell?_of_block (f.block b hb hbS)]
  exact hc i hi j v hj
theorem TreeAt.nob_head {w : World} {tb hi : Nat} {T : TreeD} (h : TreeAt w tb hi T) : ∀ j q, w.cell? ⟨tb, j, none⟩ ≠ some (.bool q) := by
  intro j q hc
  rw [h.head.cell j] at hc
  have hv : ∀ q, T.v ≠ .bool q := by
    intro q hv
    rcases h.row.2 with ⟨h1, _⟩ | ⟨g, cap, cur, h1, _⟩ <;> rw [hv] at h1 <;> cases h1
  match j with
  | 0 => simp at hc
  | 1 => simp at hc
  | 2 => simp at hc; exact hv _ hc
  | 3 => simp at hc
  | j + 4 => simp at hc
theorem TreeAt.nob_ins {w : World} {tb hi : Nat} {T : TreeD} (h : TreeAt w tb hi T) {x : InsD} (hx : x ∈ T.L) : ∀ j q, w.cell? ⟨x.b, j, none⟩ ≠ some (.bool q) := by
  intro j q hc
  rw [(h.ins x hx).cell j] at hc
  unfold InsD.cells at hc
  match j with
  | 0 => simp at hc
  | 1 => simp at hc
  | 2 => simp at hc
  | 3 => simp at hc
  | 4 => simp at hc
  | j + 5 => simp at hc
/-- An instance's cells, its pointer. -/
theorem TreeAt.ptr {w : World} {tb hi : Nat} {T : TreeD} (h : TreeAt w tb hi T) {i : Nat} (hi' : i < T.L.length) : ∃ g c, T.v = .slice (some ⟨g, 0, none⟩) T.L.length c ∧ T.L.length ≤ c ∧ w.cell? ⟨g, i, none⟩ = some (T.L.getD i default).ptr ∧ hi ≤ g ∧ g < w.heap.size := by
  rcases h.row.2 with ⟨_, h0⟩ | ⟨g, cap, cur, hv, hb, hg, hn, hcm, hcs, ht⟩
  · omega
  · refine ⟨g, cap, hv, hn, ?_, hb, (Array.getElem?_eq_some_iff.1 hg).1⟩
    rw [cell_of_row w g i _ _ _ hg, ← Array.getElem?_toList, ← List.take_append_drop (T.L.length * 1) cur.toList, ht, List.getElem?_append_left (by simp; exact hi'), List.getElem?_map, getD_at _ _ hi']
    rfl
theorem getD_memD {α : Type} [Inhabited α] (L : List α) (i : Nat) (h : i < L.length) : L.getD i default ∈ L := by
  have h2 := getD_at L i h
  exact List.mem_of_getElem? h2
theorem TreeAt.cellI {w : World} {tb hi : Nat} {T : TreeD} (h : TreeAt w tb hi T) {x : InsD} (hx : x ∈ T.L) (j : Nat) : w.cell? ⟨x.b, j, none⟩ = x.cells[j]? := (h.ins x hx).cell j
end Go.Proofs.Ytclkahggfdnpgaa
set_option linter.unusedVariables false
set_option linter.unusedSimpArgs false
namespace Go.Proofs.Ytclkahggfdnpgaa
open Go.RowKit
theorem TreeAt.vform {w : World} {tb hi : Nat} {T : TreeD} (h : TreeAt w tb hi T) : ∃ a c, T.v = .slice a T.L.length c ∧ T.L.length ≤ c ∧ ∀ i, i < T.L.length → ∃ g, a = some ⟨g, 0, none⟩ ∧ w.cell? ⟨g, i, none⟩ = some (T.L.getD i default).ptr ∧ hi ≤ g ∧ g < w.heap.size := by
  by_cases h0 : 0 < T.L.length
  · obtain ⟨g, c, hv, hc, _⟩ := h.ptr h0
    refine ⟨_, c, hv, hc, fun i hi => ?_⟩
    obtain ⟨g', c', hv', _, h3, h4, h5⟩ := h.ptr hi
    have e : g' = g := by rw [hv'] at hv; injection hv with h1; injection h1 with h1; injection h1
    subst e
    exact ⟨_, rfl, h3, h4, h5⟩
  · rcases h.row.2 with ⟨h1, h2⟩ | ⟨g, cap, cur, hv, hb, hg, hn, _⟩
    · exact ⟨none, 0, by rw [h2]; exact h1, by omega, fun i hi => absurd hi (by omega)⟩
    · exact ⟨_, cap, hv, hn, fun i hi => absurd hi (by omega)⟩
theorem ofc_any (bx : Nat) (id : Int) (x : InsD) (w : World) (hb : w.cell? ⟨bx, 0, none⟩ = some (.int .i64 id)) (hx : Row w x.b x.cells 130) :
    Calls Try.prog 88 #[x.ptr, .pointer (some ⟨bx, 0, none⟩)] w fun e w' => e = .returned (.bool (decide (x.id = id))) ∧ Fr [] w w' := by
  have hc : w.cell? ⟨x.b, 0, none⟩ = some (.int .i64 x.id) := hx.cell 0
  unfold InsD.ptr
  generalize hg : x.b = g at hc
  generalize hi : x.id = i at hc
  clear hg hi hx
  go_enter Try.func88, Try.ntmps88
  go_wp2_with fail
  go_quiet (fail)
  go_wp2_with fail
  go_ret
  exact ⟨rfl, (Fr.refl _ _).drewN _⟩
/-- Where an instance lies. -/
def IdxOf (L : List InsD) (id : Int) (r : Int) : Prop := (r = -1 ∧ ∀ j, j < L.length → (L.getD j default).id ≠ id) ∨ ∃ j : Nat, r = j ∧ j < L.length ∧ (L.getD j default).id = id ∧ ∀ k, k < j → (L.getD k default).id ≠ id
theorem index_of (tb hi bx : Nat) (T : TreeD) (id : Int) (w : World) (h : TreeAt w tb hi T) (hb : w.cell? ⟨bx, 0, none⟩ = some (.int .i64 id)) :
    Calls Try.prog 87 #[T.v, .func (.func 88) #[] #[.pointer (some ⟨bx, 0, none⟩)]] w fun e w' => ∃ r : Int, e = .returned (.int .i64 r) ∧ IdxOf T.L id r ∧ Fr [] w w' := by
  obtain ⟨a, c, hv, hlc, hp⟩ := h.vform
  have HH := Lib.hid h
  have HB := Lib.hid hb
  have hfew := h.few
  generalize hn : T.L.length = n at hv hlc hp hfew
  have HN := Lib.hid hn
  have HP := Lib.hid hp
  rw [hv]
  clear h hb hv hp hn
  go_enter Try.func87, Try.ntmps87
  go_wp2_with fail
  go_loopg [8] n (fun k i wr => ∃ j : Nat, k = n - j ∧ j ≤ n ∧ i = .int .i64 j ∧ (∀ q, q < j → (T.L.getD q default).id ≠ id) ∧ Fr [] w wr)
  case atStart => exact ⟨0, rfl, by omega, rfl, fun q hq => absurd hq (by omega), Fr.refl _ _⟩
  case round =>
    obtain ⟨j, rfl, hj, rfl, hp, hF⟩ := hrel
    have P := Lib.hid hp
    have F := Lib.hid hF
    clear hp hF
    by_cases hjn : j < n
    · have hd : decide (j < n) = true := by rw [decide_eq_true_iff]; omega
      obtain ⟨g, rfl, hc0, _, hg⟩ := HP.out j hjn
      have hm := getD_memD T.L j (by rw [HN.out]; exact hjn)
      have hc : wr.cell? ⟨g, j, none⟩ = some (T.L.getD j default).ptr := by rw [World.cell?_of_block (F.out.block g hg (by simp))]; exact hc0
      have hb2 : wr.cell? ⟨bx, 0, none⟩ = some (.int .i64 id) := by rw [World.cell?_of_block (F.out.block bx (World.block_lt_of_cell? w _ HB.out) (by simp))]; exact HB.out
      have C1 := ofc_any bx id (T.L.getD j default) wr hb2 ((HH.out.ins _ hm).fr F.out (by simp))
      obtain ⟨x, hx⟩ : ∃ x, T.L.getD j default = x := ⟨_, rfl⟩
      rw [hx] at hc C1
      unfold InsD.ptr at hc C1
      have HX := Lib.hid hx
      clear hc0 hm hb2 hx
      go_wp2_with fail
      refine C1.mono ?_
      rintro e w2 ⟨rfl, hF2⟩
      have F2 := Lib.hid (F.out.trans hF2 (by simp))
      clear hF2 C1
      by_cases hx : x.id = id
      · rw [decide_eq_true hx]
        have HI := Lib.hid hx
        clear hx
        go_wp2_with fail
        go_ret
        exact ⟨j, rfl, .inr ⟨j, rfl, by rw [HN.out]; exact hjn, by rw [HX.out]; exact HI.out, P.out⟩, F2.out⟩
      · rw [decide_eq_false hx]
        have HI := Lib.hid hx
        clear hx
        go_wp2_with fail
        go_roundg (n - (j + 1))
        case measure => omega
        case rel =>
          refine ⟨j + 1, rfl, by omega, rfl, fun q hq => ?_, F2.out⟩
          by_cases hqj : q = j
          · rw [hqj, HX.out]; exact HI.out
          · exact P.out q (by omega)
    · have hd : decide (j < n) = false := by rw [decide_eq_false_iff_not]; omega
      go_wp2_with fail
      go_ret
      exact ⟨-1, rfl, .inl ⟨rfl, fun q hq => P.out q (by rw [HN.out] at hq; omega)⟩, F.out⟩
/-- The instance of a number: none, or where it lies. -/
def OfAt (L : List InsD) (id : Int) (v : Value) : Prop := (v = .pointer none ∧ ∀ x ∈ L, x.id ≠ id) ∨ ∃ j : Nat, j < L.length ∧ v = (L.getD j default).ptr ∧ (L.getD j default).id = id
theorem of_any (tb hi : Nat) (T : TreeD) (id : Int) (w : World) (h : TreeAt w tb hi T) :
    Calls Try.prog 76 #[.pointer (some ⟨tb, 0, none⟩), .int .i64 id] w fun e w' => ∃ v, e = .returned v ∧ OfAt T.L id v ∧ Fr [] w w' := by
  have hr := (Fr.refl [] w).alloc (.cells #[.int .i64 id] 3)
  have h1 := h.fr hr
  have hb : (w.alloc (.cells #[.int .i64 id] 3)).cell? ⟨w.heap.size, 0, none⟩ = some (.int .i64 id) := (Row.new w [.int .i64 id] 3).cell 0
  have C1 := index_of tb hi w.heap.size T id _ h1 hb
  have hc2 : (w.alloc (.cells #[.int .i64 id] 3)).cell? ⟨tb, 2, none⟩ = some T.v := h1.head.cell 2
  have HR := Lib.hid hr
  have HH := Lib.hid h
  obtain ⟨a, c, hv, hlc, _⟩ := h.vform
  have hfew := h.few
  rw [hv] at C1 hc2
  have HV := Lib.hid hv
  generalize hn : T.L.length = n at C1 hc2 hlc hfew
  have HN := Lib.hid hn
  clear h h1 hr hb hv hn
  go_enter Try.func76, Try.ntmps76
  go_wp2_with fail
  refine C1.mono ?_
  rintro e w2 ⟨r, rfl, hI, hF⟩
  have F := Lib.hid (HR.out.trans hF (by simp))
  have hc3 : w2.cell? ⟨tb, 2, none⟩ = some (.slice a n c) := by rw [World.cell?_of_block (hF.block tb (Nat.lt_of_lt_of_le HH.out.head.lt HR.out.size) (by simp))]; exact hc2
  rcases hI with ⟨rfl, hI⟩ | ⟨j, rfl, hj, hI, -⟩
  · have HI := Lib.hid hI
    clear hI hF hc2 C1
    go_wp2_with fail
    go_ret
    refine ⟨_, rfl, .inl ⟨rfl, fun x hx => ?_⟩, F.out⟩
    obtain ⟨q, hq, rfl⟩ := List.getElem_of_mem hx
    have := HI.out q hq
    rwa [List.getD_eq_getElem?_getD, List.getElem?_eq_getElem hq] at this
  · have HJ := Lib.hid hj
    have HI := Lib.hid hI
    obtain ⟨a', c', hv', _, hp⟩ := (HH.out.fr F.out).vform
    obtain ⟨g, ha, hc, _, hg⟩ := hp j hj
    have e : a = some ⟨g, 0, none⟩ := by rw [HV.out] at hv'; injection hv' with h1; rw [h1, ha]
    subst e
    have hjn : j < n := by rw [← HN.out]; exact hj
    clear hj hI hF hc2 C1 hv' hp ha
    obtain ⟨x, hx⟩ : ∃ x, T.L.getD j default = x := ⟨_, rfl⟩
    rw [hx] at hc
    have HX := Lib.hid hx
    unfold InsD.ptr at hc
    clear hx
    go_wp2_with fail
    go_ret
    exact ⟨_, rfl, .inr ⟨j, HJ.out, by rw [HX.out]; rfl, HI.out⟩, F.out⟩
end Go.Proofs.Ytclkahggfdnpgaa
