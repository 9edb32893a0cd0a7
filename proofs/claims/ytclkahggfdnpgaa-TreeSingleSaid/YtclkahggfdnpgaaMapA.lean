/- Maps as plain functions, whatever the key's type and the element's. No program in sight. -/
import Derived.Test.YtclkahggfdnpgaaMem
import Derived.MapKept
import Derived.ChangeMaps
set_option linter.unusedVariables false
set_option linter.unusedSimpArgs false
namespace Go.Proofs.Ytclkahggfdnpgaa
open Go.ChangeMaps (setBlock heap_setBlock_same heap_setBlock_other)
/-- How the values of a key's type stand for plain ones. -/
structure KeyIn (P : Program) (k : TypeId) (κ : Type) [DecidableEq κ] where
  enc : κ → Value
  check : ∀ (e : Bool) (a : κ) (w : World), (Instr.checkKey e 10000 k (enc a)).run P w = .ok () w
  eqs : ∀ (a b : κ) (w : World), (Op.equal k (enc a) (enc b)).run P w = .ok (decide (a = b)) w
  now : ∀ (d : TypeDesc) (a b : κ), P.underlying k = some d → Instr.sameNow d (enc a) (enc b) = none ∨ Instr.sameNow d (enc a) (enc b) = some (decide (a = b))
  stays : ∀ a, Instr.sameBits 10000 (enc a) (enc a) = true
section
variable {P : Program} {k e t : TypeId} {κ α : Type} [DecidableEq κ] (K : KeyIn P k κ) (val : α → Value)
def pairsOf (es : List MapEntry) (L : List (κ × α)) : Prop := es.map (fun x => (x.key, x.val)) = L.map fun p => (K.enc p.1, val p.2)
variable {K val}
theorem pairs_cons {x : MapEntry} {es : List MapEntry} {L : List (κ × α)} (h : pairsOf K val (x :: es) L) : ∃ p L', L = p :: L' ∧ x.key = K.enc p.1 ∧ x.val = val p.2 ∧ pairsOf K val es L' := by
  cases L with
  | nil => simp [pairsOf] at h
  | cons p L' =>
    simp [pairsOf] at h
    exact ⟨p, L', rfl, h.1.1, h.1.2, h.2⟩
theorem idx_cons_ne {L : List (κ × α)} {p : κ × α} {a : κ} (i : Nat) (hp : ¬ p.1 = a) :
    (((p :: L).findIdx? fun p => decide (p.1 = a)).bind fun j => ((p :: L)[j]?).map fun p => (i + j, val p.2)) = (L.findIdx? fun p => decide (p.1 = a)).bind fun j => (L[j]?).map fun p => (i + 1 + j, val p.2) := by
  rw [List.findIdx?_cons, decide_eq_false hp]
  cases hf : L.findIdx? fun p => decide (p.1 = a) with
  | none => simp
  | some j => simp [show i + (j + 1) = i + 1 + j by omega]
theorem idx_cons_eq {L : List (κ × α)} {p : κ × α} (i : Nat) :
    (((p :: L).findIdx? fun q => decide (q.1 = p.1)).bind fun j => ((p :: L)[j]?).map fun p => (i + j, val p.2)) = some (i, val p.2) := by
  rw [List.findIdx?_cons]
  simp
theorem find_asking (a : κ) (w : World) : ∀ (es : List MapEntry) (L : List (κ × α)) (i : Nat), pairsOf K val es L →
    (Instr.findAsking k (K.enc a) es i).run P w = .ok ((L.findIdx? fun p => decide (p.1 = a)).bind fun j => (L[j]?).map fun p => (i + j, val p.2)) w := by
  intro es
  induction es with
  | nil =>
    intro L i h
    cases L with
    | nil => simp [Instr.findAsking]
    | cons p L => simp [pairsOf] at h
  | cons x es ih =>
    intro L i h
    obtain ⟨p, L', rfl, hk, hv, hr⟩ := pairs_cons h
    have h1 := K.eqs a p.1 w
    by_cases hp : p.1 = a
    · subst hp
      rw [idx_cons_eq]
      rw [decide_eq_true rfl] at h1
      simp [Instr.findAsking, hk, h1, hv]
    · rw [idx_cons_ne i hp]
      rw [decide_eq_false (fun e => hp e.symm)] at h1
      simp [Instr.findAsking, hk, h1, ih L' (i + 1) hr]
theorem find_now (d : TypeDesc) (hd : P.underlying k = some d) (a : κ) : ∀ (es : List MapEntry) (L : List (κ × α)) (i : Nat), pairsOf K val es L →
    Instr.findNow d (K.enc a) es i = none ∨ Instr.findNow d (K.enc a) es i = some ((L.findIdx? fun p => decide (p.1 = a)).bind fun j => (L[j]?).map fun p => (i + j, val p.2)) := by
  intro es
  induction es with
  | nil =>
    intro L i h
    cases L with
    | nil => right; simp [Instr.findNow]
    | cons p L => simp [pairsOf] at h
  | cons x es ih =>
    intro L i h
    obtain ⟨p, L', rfl, hk, hv, hr⟩ := pairs_cons h
    rcases K.now d a p.1 hd with h1 | h1
    · left
      simp [Instr.findNow, hk, h1]
    · by_cases hp : p.1 = a
      · right
        subst hp
        rw [idx_cons_eq]
        rw [decide_eq_true rfl] at h1
        simp [Instr.findNow, hk, h1, hv]
      · rw [idx_cons_ne i hp]
        rw [decide_eq_false (fun e => hp e.symm)] at h1
        have e1 : Instr.findNow d (K.enc a) (x :: es) i = Instr.findNow d (K.enc a) es (i + 1) := by simp [Instr.findNow, hk, h1]
        rw [e1]
        exact ih L' (i + 1) hr
theorem find_key {d : TypeDesc} (hd : P.underlying k = some d) (a : κ) (w : World) (es : List MapEntry) (L : List (κ × α)) (h : pairsOf K val es L) :
    (Instr.findKey k (K.enc a) es).run P w = .ok ((L.findIdx? fun p => decide (p.1 = a)).bind fun j => (L[j]?).map fun p => (j, val p.2)) w := by
  have h1 := find_asking (K := K) (val := val) a w es L 0 h
  simp only [Nat.zero_add] at h1
  rcases find_now (K := K) (val := val) d hd a es L 0 h with h2 | h2
  · simp [Instr.findKey, run_underlying hd, h2, h1]
  · simp only [Nat.zero_add] at h2
    simp [Instr.findKey, run_underlying hd, h2]
def lookL (L : List (κ × α)) (x : κ) : Option α := (L.find? fun p => decide (p.1 = x)).map (·.2)
theorem lookL_idx (L : List (κ × α)) (x : κ) : ((L.findIdx? fun p => decide (p.1 = x)).bind fun j => (L[j]?).map fun p => (j, val p.2)) = match L.findIdx? fun p => decide (p.1 = x) with
    | none => none
    | some j => (lookL L x).map fun v => (j, val v) := by
  cases h : L.findIdx? fun p => decide (p.1 = x) with
  | none => rfl
  | some j =>
    have h1 : L.find? (fun p => decide (p.1 = x)) = L[j]? := by
      rw [List.find?_eq_getElem?_findIdx, ← List.findIdx?_eq_some_iff_findIdx_eq.1 h |>.2]
    simp [lookL, h1, Function.comp_def]
theorem lookL_none {L : List (κ × α)} {x : κ} : (L.findIdx? fun p => decide (p.1 = x)) = none ↔ lookL L x = none := by
  unfold lookL
  rw [Option.map_eq_none_iff, List.find?_eq_none, List.findIdx?_eq_none_iff]
  simp
variable (K val)
/-- Block b of w is a map of at most n entries: m. -/
structure MapA (w : World) (b n : Nat) (m : κ → Option α) : Prop where
  ex : ∃ (es : Array MapEntry) (clock : Nat) (L : List (κ × α)), w.heap[b]? = some (.map es clock) ∧ pairsOf K val es.toList L ∧ L.length ≤ n ∧ (L.map (·.1)).Nodup ∧ ∀ x, m x = lookL L x
variable {K val}
variable {w : World} {b n : Nat} {m : κ → Option α}
theorem MapA.lt (h : MapA K val w b n m) : b < w.heap.size := by
  obtain ⟨es, clock, L, h1, _⟩ := h.ex
  exact (Array.getElem?_eq_some_iff.1 h1).1
theorem MapA.fr {w' : World} {S : List Nat} (h : MapA K val w b n m) (f : Fr S w w') (hb : b ∉ S) : MapA K val w' b n m := by
  have hlt := h.lt
  obtain ⟨es, clock, L, h1, r⟩ := h.ex
  exact ⟨es, clock, L, (f.block b hlt hb).trans h1, r⟩
theorem MapA.mono {n' : Nat} (h : MapA K val w b n m) (hn : n ≤ n') : MapA K val w b n' m := by
  obtain ⟨es, clock, L, h1, h2, h3, r⟩ := h.ex
  exact ⟨es, clock, L, h1, h2, Nat.le_trans h3 hn, r⟩
theorem MapA.made (w : World) : MapA K val (w.alloc (.map #[] 0)) w.heap.size 0 (fun _ => none) :=
  ⟨#[], 0, [], heap_alloc_new _ _, rfl, Nat.le_refl _, List.Pairwise.nil, fun x => rfl⟩
theorem MapA.look (h : MapA K val w b n m) {d : TypeDesc} (hd : P.underlying k = some d) (ht : P.underlying t = some (.map k e)) {z : Value} (hz : (zeroValue e).run P w = .ok z w) (x : κ) :
    (Instr.lookup t (.map (some b)) (K.enc x) true).run P w = .ok (.tuple #[((m x).map val).getD z, .bool (m x).isSome]) w := by
  obtain ⟨es, clock, L, h1, h2, _, _, h4⟩ := h.ex
  have hf := find_key hd x w es.toList L h2
  rw [lookL_idx] at hf
  rw [h4 x]
  cases hi : L.findIdx? fun p => decide (p.1 = x) with
  | none =>
    rw [hi] at hf
    have := lookL_none.1 hi
    simp [Instr.lookup, run_underlying ht, MapKept.run_getObj_map h1, K.check, hf, hz, this, Result.andThen]
  | some j =>
    rw [hi] at hf
    cases hl : lookL L x with
    | none => rw [lookL_none.2 hl] at hi; cases hi
    | some v =>
      rw [hl] at hf
      simp at hf
      simp [Instr.lookup, run_underlying ht, MapKept.run_getObj_map h1, K.check, hf, Result.andThen]
theorem MapA.look1 (h : MapA K val w b n m) {d : TypeDesc} (hd : P.underlying k = some d) (ht : P.underlying t = some (.map k e)) {z : Value} (hz : (zeroValue e).run P w = .ok z w) (x : κ) :
    (Instr.lookup t (.map (some b)) (K.enc x) false).run P w = .ok (((m x).map val).getD z) w := by
  obtain ⟨es, clock, L, h1, h2, _, _, h4⟩ := h.ex
  have hf := find_key hd x w es.toList L h2
  rw [lookL_idx] at hf
  rw [h4 x]
  cases hi : L.findIdx? fun p => decide (p.1 = x) with
  | none =>
    rw [hi] at hf
    have := lookL_none.1 hi
    simp [Instr.lookup, run_underlying ht, MapKept.run_getObj_map h1, K.check, hf, hz, this, Result.andThen]
  | some j =>
    rw [hi] at hf
    cases hl : lookL L x with
    | none => rw [lookL_none.2 hl] at hi; cases hi
    | some v =>
      rw [hl] at hf
      simp at hf
      simp [Instr.lookup, run_underlying ht, MapKept.run_getObj_map h1, K.check, hf, Result.andThen]
theorem lookL_set {L : List (κ × α)} {x : κ} {v : α} {j : Nat} (hnd : (L.map (·.1)).Nodup) (hj : L.findIdx? (fun p => decide (p.1 = x)) = some j) :
    ((L.set j (x, v)).map (·.1)) = L.map (·.1) ∧ ∀ y, lookL (L.set j (x, v)) y = if y = x then some v else lookL L y := by
  obtain ⟨hlt, hp, hmin⟩ := List.findIdx?_eq_some_iff_getElem.1 hj
  have hx : L[j].1 = x := by simpa using hp
  refine ⟨?_, fun y => ?_⟩
  · apply List.ext_getElem
    · simp
    · intro i h1 h2
      simp only [List.getElem_map, List.getElem_set]
      split
      · rename_i he; subst he; exact hx.symm
      · rfl
  · clear hmin hp hj
    unfold lookL
    induction L generalizing j with
    | nil => simp at hlt
    | cons p L ih =>
      rw [List.map_cons, List.nodup_cons] at hnd
      cases j with
      | zero =>
        simp only [List.set_cons_zero, List.find?_cons]
        simp only [List.getElem_cons_zero] at hx
        by_cases hy : y = x
        · subst hy; simp
        · rw [if_neg hy]
          have h1 : ¬ x = y := fun e => hy e.symm
          have h2 : ¬ p.1 = y := fun e => hy (e.symm.trans hx)
          simp [h1, h2]
      | succ j =>
        simp only [List.set_cons_succ, List.find?_cons]
        simp only [List.getElem_cons_succ] at hx
        have hlt' : j < L.length := by simpa using hlt
        have hpx : p.1 ≠ x := fun e => hnd.1 (by rw [e, ← hx]; exact List.mem_map.2 ⟨_, List.getElem_mem hlt', rfl⟩)
        by_cases hpy : p.1 = y
        · have hyx : y ≠ x := fun e => hpx (hpy.trans e)
          rw [if_neg hyx]
          simp [hpy]
        · simp only [decide_eq_false hpy]
          exact ih hnd.2 hlt' hx
theorem lookL_snoc {L : List (κ × α)} {x : κ} {v : α} (hn : lookL L x = none) : ∀ y, lookL (L ++ [(x, v)]) y = if y = x then some v else lookL L y := by
  intro y
  unfold lookL at *
  rw [List.find?_append]
  by_cases hy : y = x
  · subst hy
    rw [if_pos rfl]
    rw [Option.map_eq_none_iff] at hn
    rw [hn]
    simp
  · rw [if_neg hy]
    have h1 : ¬ x = y := fun e => hy e.symm
    cases h2 : L.find? (fun p => decide (p.1 = y)) with
    | none => simp [h1]
    | some p => simp
theorem MapA.store (h : MapA K val w b n m) {d : TypeDesc} (hd : P.underlying k = some d) (ht : P.underlying t = some (.map k e)) (x : κ) (v : α) :
    ∃ w', (Instr.mapUpdate t (.map (some b)) (K.enc x) (val v)).run P w = .ok () w' ∧ MapA K val w' b (n + 1) (fun y => if y = x then some v else m y) ∧ Fr [b] w w' := by
  obtain ⟨es, clock, L, h1, h2, h3, hnd, h4⟩ := h.ex
  have hf := find_key hd x w es.toList L h2
  rw [lookL_idx] at hf
  have frm : ∀ o, Fr [b] w (setBlock w b o) := fun o => ⟨rfl, rfl, rfl, by simp [setBlock], fun i hi hne => heap_setBlock_other h1 _ (fun e => hne (by simp [e]))⟩
  cases hi : L.findIdx? fun p => decide (p.1 = x) with
  | none =>
    rw [hi] at hf
    have hno := lookL_none.1 hi
    refine ⟨setBlock w b (.map (es.push ⟨K.enc x, val v, clock⟩) (clock + 1)), ?_, ⟨es.push ⟨K.enc x, val v, clock⟩, clock + 1, L ++ [(x, v)], heap_setBlock_same h1 _, ?_, ?_, ?_, fun y => ?_⟩, frm _⟩
    · simp [Instr.mapUpdate, run_underlying ht, MapKept.run_getObj_map h1, K.check, hf, MapKept.run_setObj_map _ h1, Result.andThen, setBlock]
    · unfold pairsOf at *
      simp [h2]
    · simp; exact h3
    · rw [List.map_append, List.nodup_append]
      refine ⟨hnd, by simp, fun a ha c hc => ?_⟩
      simp at hc
      subst hc
      intro e
      subst e
      obtain ⟨p, hp, hpe⟩ := List.mem_map.1 ha
      rw [List.findIdx?_eq_none_iff] at hi
      have := hi p hp
      simp [hpe] at this
    · rw [lookL_snoc hno y, h4 y]
  | some j =>
    rw [hi] at hf
    cases hl : lookL L x with
    | none => rw [lookL_none.2 hl] at hi; cases hi
    | some v0 =>
      rw [hl] at hf
      simp at hf
      have hlen : es.size = L.length := by
        have := congrArg List.length h2
        simpa using this
      obtain ⟨hlt, hp, _⟩ := List.findIdx?_eq_some_iff_getElem.1 hi
      have hx : L[j].1 = x := by simpa using hp
      have hje : j < es.size := by omega
      have hkey : (es[j]).key = K.enc x := by
        have := congrArg (fun l => l[j]?) h2
        simp [hje, hlt] at this
        rw [this.1, hx]
      obtain ⟨s1, s2⟩ := lookL_set (v := v) hnd hi
      refine ⟨setBlock w b (.map (es.modify j fun e' => { e' with key := K.enc x, val := val v }) clock), ?_, ⟨_, clock, L.set j (x, v), heap_setBlock_same h1 _, ?_, by simp; omega, by rw [s1]; exact hnd, fun y => by rw [s2 y, h4 y]⟩, frm _⟩
      · simp [Instr.mapUpdate, run_underlying ht, MapKept.run_getObj_map h1, K.check, hf, hje, hkey, Instr.keyThatStays, K.stays, MapKept.run_setObj_map _ h1, Result.andThen, setBlock]
      · unfold pairsOf at *
        apply List.ext_getElem
        · simp [hlen]
        · intro i g1 g2
          have h5 := congrArg (fun l => l[i]?) h2
          simp at g1 g2
          simp [g1, g2] at h5
          simp only [List.getElem_map, Array.getElem_toList, Array.getElem_modify, List.getElem_set]
          split
          · rfl
          · simp [h5]
end
/-- Whole numbers as keys. -/
def intKey (P : Program) (k : TypeId) (hk : P.underlying k = some (.int .i64)) : KeyIn P k Int where
  enc a := .int .i64 a
  check e a w := by
    rw [show (10000 : Nat) = 9999 + 1 from rfl, Instr.checkKey]
    simp [run_underlying hk]
  eqs a b w := by
    unfold Op.equal Op.maxDepth
    rw [show (10000 : Nat) = 9999 + 1 from rfl, Op.equalIn]
    simp [run_underlying hk]
    rfl
  now d a b hd := by
    rw [hk] at hd
    cases hd
    right
    simp [Instr.sameNow]
    rfl
  stays a := by simp [Instr.sameBits]
theorem run_part1 {P : Program} {i : TypeId} (ha : ∀ w, (isAgg i).run P w = .ok false w) (cs : Array Value) (j : Nat) (v : Value) (hv : cs[j]? = some v) (w : World) : (part i cs j).run P w = .ok v w := by
  simp [part, ha w, hv]
theorem check_int {P : Program} {i : TypeId} (hi : P.underlying i = some (.int .i64)) (e : Bool) (n : Nat) (a : Int) (w : World) : (Instr.checkKey e (n + 1) i (.int .i64 a)).run P w = .ok () w := by
  rw [Instr.checkKey]
  simp [run_underlying hi]
theorem equal_int {P : Program} {i : TypeId} (hi : P.underlying i = some (.int .i64)) (n : Nat) (a b : Int) (w : World) : (Op.equalIn (n + 1) i (.int .i64 a) (.int .i64 b)).run P w = .ok (a == b) w := by
  rw [Op.equalIn]
  simp [run_underlying hi]
/-- Pairs of whole numbers ([2]int) as keys. -/
def pairKey (P : Program) (k i : TypeId) (hk : P.underlying k = some (.array 2 i)) (hi : P.underlying i = some (.int .i64)) (hs : ∀ w, (sizeOf i).run P w = .ok 1 w) (ha : ∀ w, (isAgg i).run P w = .ok false w) : KeyIn P k (Int × Int) where
  enc a := .agg #[.int .i64 a.1, .int .i64 a.2]
  check e a w := by
    have e2 : List.range' 0 2 = [0, 1] := rfl
    have p0 := run_part1 (P := P) ha #[.int .i64 a.1, .int .i64 a.2] 0 _ rfl w
    have p1 := run_part1 (P := P) ha #[.int .i64 a.1, .int .i64 a.2] 1 _ rfl w
    have c : ∀ v, (Instr.checkKey e 9999 i (.int .i64 v)).run P w = .ok () w := fun v => check_int hi e 9998 v w
    rw [show (10000 : Nat) = 9999 + 1 from rfl, Instr.checkKey]
    simp [run_underlying hk, e2, hs w, p0, p1, c]
  eqs a b w := by
    have e2 : List.range' 0 2 = [0, 1] := rfl
    have p0 := run_part1 (P := P) ha #[.int .i64 a.1, .int .i64 a.2] 0 _ rfl w
    have p1 := run_part1 (P := P) ha #[.int .i64 a.1, .int .i64 a.2] 1 _ rfl w
    have q0 := run_part1 (P := P) ha #[.int .i64 b.1, .int .i64 b.2] 0 _ rfl w
    have q1 := run_part1 (P := P) ha #[.int .i64 b.1, .int .i64 b.2] 1 _ rfl w
    unfold Op.equal Op.maxDepth
    have c : ∀ u v, (Op.equalIn 9999 i (.int .i64 u) (.int .i64 v)).run P w = .ok (u == v) w := fun u v => equal_int hi 9998 u v w
    rw [show (10000 : Nat) = 9999 + 1 from rfl, Op.equalIn]
    obtain ⟨a1, a2⟩ := a
    obtain ⟨b1, b2⟩ := b
    by_cases h1 : a1 = b1
    · subst h1
      by_cases h2 : a2 = b2
      · subst h2
        simp [run_underlying hk, e2, hs w, p0, p1, c]
      · simp [run_underlying hk, e2, hs w, p0, p1, q0, q1, c, beq_eq_false_iff_ne.2 h2, h2]
    · simp [run_underlying hk, e2, hs w, p0, p1, q0, q1, c, beq_eq_false_iff_ne.2 h1, h1]
  now d a b hd := by
    rw [hk] at hd
    cases hd
    left
    simp [Instr.sameNow]
  stays a := by
    rw [show (10000 : Nat) = 9999 + 1 from rfl]
    simp [Instr.sameBits]
end Go.Proofs.Ytclkahggfdnpgaa
