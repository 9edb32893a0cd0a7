/- Maps as plain functions, with entries that are laid and stored into. No program in sight. -/
import Derived.Test.YtclkahggfdnpgaaMapA
import Derived.WideKeyEntry
set_option linter.unusedVariables false
set_option linter.unusedSimpArgs false
namespace Go.Proofs.Ytclkahggfdnpgaa
open Go.ChangeMaps (setBlock heap_setBlock_same heap_setBlock_other)
theorem setBlock_twice {w : World} {b : Nat} {es es1 : Array MapEntry} {c c1 : Nat} : setBlock (setBlock w b (.map es c)) b (.map es1 c1) = setBlock w b (.map es1 c1) := by
  simp [setBlock]
theorem born_modify (es : Array MapEntry) (j : Nat) (f : MapEntry → MapEntry) (hf : ∀ e, (f e).born = e.born) : (es.modify j f).toList.map (·.born) = es.toList.map (·.born) := by
  apply List.ext_getElem?
  intro i
  simp only [List.getElem?_map, Array.getElem?_toList, Array.getElem?_modify]
  by_cases hij : j = i
  · subst hij
    cases he : es[j]? with
    | none => simp
    | some e => simp [hf e]
  · simp [hij]
section
variable {P : Program} {k e t : TypeId} {κ α : Type} [DecidableEq κ] (K : KeyIn P k κ) (val : α → Value)
/-- Block b of w is a map of at most n entries, each with a stamp of its own: m. -/
structure MapS (w : World) (b n : Nat) (m : κ → Option α) : Prop where
  ex : ∃ (es : Array MapEntry) (clock : Nat) (L : List (κ × α)), w.heap[b]? = some (.map es clock) ∧ pairsOf K val es.toList L ∧ L.length ≤ n ∧ (L.map (·.1)).Nodup ∧ (∀ x, m x = lookL L x) ∧ (∀ s ∈ es.toList.map (·.born), s < clock) ∧ (es.toList.map (·.born)).Nodup
variable {K val}
variable {w : World} {b n : Nat} {m : κ → Option α}
theorem MapS.toA (h : MapS K val w b n m) : MapA K val w b n m := by
  obtain ⟨es, clock, L, h1, h2, h3, h4, h5, _⟩ := h.ex
  exact ⟨es, clock, L, h1, h2, h3, h4, h5⟩
theorem MapS.lt (h : MapS K val w b n m) : b < w.heap.size := h.toA.lt
theorem MapS.fr {w' : World} {S : List Nat} (h : MapS K val w b n m) (f : Fr S w w') (hb : b ∉ S) : MapS K val w' b n m := by
  have hlt := h.lt
  obtain ⟨es, clock, L, h1, r⟩ := h.ex
  exact ⟨es, clock, L, (f.block b hlt hb).trans h1, r⟩
theorem MapS.mono {n' : Nat} (h : MapS K val w b n m) (hn : n ≤ n') : MapS K val w b n' m := by
  obtain ⟨es, clock, L, h1, h2, h3, r⟩ := h.ex
  exact ⟨es, clock, L, h1, h2, Nat.le_trans h3 hn, r⟩
theorem MapS.made (w : World) : MapS K val (w.alloc (.map #[] 0)) w.heap.size 0 (fun _ => none) :=
  ⟨#[], 0, [], heap_alloc_new _ _, rfl, Nat.le_refl _, List.Pairwise.nil, fun x => rfl, by simp, List.Pairwise.nil⟩
/-- An entry laid, and stored into. -/
theorem MapS.entry (h : MapS K val w b n m) {d : TypeDesc} (hd : P.underlying k = some d) (ht : P.underlying t = some (.map k e)) {zz : α} (hz : ∀ w, (zeroValue e).run P w = .ok (val zz) w) (x : κ) (v : α) :
    ∃ (v0 : Value) (st : Nat) (w1 w2 : World), (Instr.mapEntry t (.map (some b)) (K.enc x)).run P w = .ok (.tuple #[v0, goInt st]) w1 ∧ Fr [b] w w1 ∧
      (Instr.lookup t (.map (some b)) (K.enc x) false).run P w1 = .ok (val ((m x).getD zz)) w1 ∧
      (Instr.entryStore t (.map (some b)) (goInt st) (val v)).run P w1 = .ok () w2 ∧ MapS K val w2 b (n + 1) (fun y => if y = x then some v else m y) ∧ Fr [b] w w2 := by
  obtain ⟨es, clock, L, h1, h2, h3, hnd, h4, s1, s2⟩ := h.ex
  obtain ⟨z, hzz⟩ : ∃ z, z = val zz := ⟨_, rfl⟩
  rw [← hzz] at hz
  have hf := find_key hd x w es.toList L h2
  rw [lookL_idx] at hf
  have frm : ∀ o, Fr [b] w (setBlock w b o) := fun o => ⟨rfl, rfl, rfl, by simp [setBlock], fun i hi hne => heap_setBlock_other h1 _ (fun e => hne (by simp [e]))⟩
  cases hi : L.findIdx? fun p => decide (p.1 = x) with
  | none =>
    rw [hi] at hf
    have hno := lookL_none.1 hi
    have hw1 : (setBlock w b (.map (es.push ⟨K.enc x, z, clock⟩) (clock + 1))).heap[b]? = some (.map (es.push ⟨K.enc x, z, clock⟩) (clock + 1)) := heap_setBlock_same h1 _
    refine ⟨z, clock, setBlock w b (.map (es.push ⟨K.enc x, z, clock⟩) (clock + 1)), setBlock w b (.map (es.push ⟨K.enc x, val v, clock⟩) (clock + 1)), ?_, frm _, ?_, ?_, ⟨es.push ⟨K.enc x, val v, clock⟩, clock + 1, L ++ [(x, v)], heap_setBlock_same h1 _, ?_, ?_, ?_, fun y => ?_, ?_, ?_⟩, frm _⟩
    · simp [Instr.mapEntry, run_underlying ht, MapKept.run_getObj_map h1, K.check, hf, hz, MapKept.run_setObj_map _ h1, Result.andThen, setBlock]
    · have hA : MapA K val (setBlock w b (.map (es.push ⟨K.enc x, z, clock⟩) (clock + 1))) b (n + 1) (fun y => if y = x then some zz else m y) := by
        refine ⟨es.push ⟨K.enc x, z, clock⟩, clock + 1, L ++ [(x, zz)], hw1, ?_, ?_, ?_, fun y => ?_⟩
        · unfold pairsOf at *
          simp [h2, hzz]
        · simp; exact h3
        · rw [List.map_append, List.nodup_append]
          refine ⟨hnd, by simp, fun a ha c hc => ?_⟩
          simp at hc
          subst hc
          intro e
          subst e
          obtain ⟨p, hp, hpe⟩ := List.mem_map.1 ha
          rw [List.findIdx?_eq_none_iff] at hi
          have := hi p hp
          simp [hpe] at this
        · rw [lookL_snoc hno y, h4 y]
      have hl := hA.look1 hd ht (hz _) x
      rw [if_pos rfl] at hl
      have hmx : m x = none := by rw [h4 x]; exact hno
      rw [hmx]
      exact hl
    · have hidx : (es.push ⟨K.enc x, z, clock⟩).findIdx? (fun e => ((e.born : Nat) : Int) == ((clock : Nat) : Int)) = some es.size := by
        rw [WideElems.findIdx_arr]
        exact WideElems.findIdx_born (l := (es.push ⟨K.enc x, z, clock⟩).toList) (j := es.size) (e0 := ⟨K.enc x, z, clock⟩) (by
          simp only [Array.toList_push, List.map_append, List.map_cons, List.map_nil]
          refine List.nodup_append.2 ⟨s2, by simp, fun a ha c hc e1 => ?_⟩
          simp only [List.mem_singleton] at hc
          have := s1 a ha
          omega) (by simp)
      have hmod : (es.push ⟨K.enc x, z, clock⟩).modify es.size (fun e => { e with val := val v }) = es.push ⟨K.enc x, val v, clock⟩ := by
        apply Array.ext'
        rw [Array.toList_modify, Array.toList_push, Array.toList_push, ← Array.length_toList, WideElems.modify_last]
      rw [← setBlock_twice (es := es.push ⟨K.enc x, z, clock⟩) (c := clock + 1) (es1 := es.push ⟨K.enc x, val v, clock⟩) (c1 := clock + 1)]
      generalize setBlock w b (.map (es.push ⟨K.enc x, z, clock⟩) (clock + 1)) = W1 at hw1 ⊢
      simp [Instr.entryStore, MapKept.run_getObj_map hw1, asInt, asIntOf, goInt, hidx, hmod, MapKept.run_setObj_map _ hw1, Result.andThen, setBlock]
    · unfold pairsOf at *
      simp [h2]
    · simp; exact h3
    · rw [List.map_append, List.nodup_append]
      refine ⟨hnd, by simp, fun a ha c hc => ?_⟩
      simp at hc
      subst hc
      intro e
      subst e
      obtain ⟨p, hp, hpe⟩ := List.mem_map.1 ha
      rw [List.findIdx?_eq_none_iff] at hi
      have := hi p hp
      simp [hpe] at this
    · rw [lookL_snoc hno y, h4 y]
    · intro s hs
      simp only [Array.toList_push, List.map_append, List.map_cons, List.map_nil, List.mem_append, List.mem_singleton] at hs
      rcases hs with hs | rfl
      · have := s1 s hs; omega
      · omega
    · simp only [Array.toList_push, List.map_append, List.map_cons, List.map_nil]
      refine List.nodup_append.2 ⟨s2, by simp, fun a ha c hc e1 => ?_⟩
      simp only [List.mem_singleton] at hc
      have := s1 a ha
      omega
  | some j =>
    rw [hi] at hf
    cases hl : lookL L x with
    | none => rw [lookL_none.2 hl] at hi; cases hi
    | some v0 =>
      rw [hl] at hf
      simp at hf
      have hlen : es.size = L.length := by
        have := congrArg List.length h2
        simpa using this
      obtain ⟨hlt, hp, _⟩ := List.findIdx?_eq_some_iff_getElem.1 hi
      have hx : L[j].1 = x := by simpa using hp
      have hje : j < es.size := by omega
      have hkey : (es[j]).key = K.enc x := by
        have := congrArg (fun l => l[j]?) h2
        simp [hje, hlt] at this
        rw [this.1, hx]
      have hl2 : es.toList[j]? = some es[j] := by simp [hje]
      have hsame : es.modify j (fun e => { e with key := K.enc x }) = es := by
        apply Array.ext'
        rw [Array.toList_modify, ChangeMaps.modify_eq_set _ _ _ _ hl2]
        have : ({ es[j] with key := K.enc x } : MapEntry) = es[j] := by rw [← hkey]
        rw [this]
        exact WideElems.set_self _ _ _ hl2
      obtain ⟨t1, t2⟩ := lookL_set (v := v) hnd hi
      have hw1 : (setBlock w b (.map es clock)).heap[b]? = some (.map es clock) := heap_setBlock_same h1 _
      refine ⟨val v0, es[j].born, setBlock w b (.map es clock), setBlock w b (.map (es.modify j fun e' => { e' with val := val v }) clock), ?_, frm _, ?_, ?_, ⟨_, clock, L.set j (x, v), heap_setBlock_same h1 _, ?_, by simp; omega, by rw [t1]; exact hnd, fun y => by rw [t2 y, h4 y], ?_, ?_⟩, frm _⟩
      · simp [Instr.mapEntry, run_underlying ht, MapKept.run_getObj_map h1, K.check, hf, hje, hkey, Instr.keyThatStays, K.stays, hsame, MapKept.run_setObj_map _ h1, Result.andThen, setBlock]
      · have hA : MapA K val (setBlock w b (.map es clock)) b n m := ⟨es, clock, L, hw1, h2, h3, hnd, h4⟩
        have hl2 := hA.look1 hd ht (hz _) x
        have hmx : m x = some v0 := by rw [h4 x]; exact hl
        rw [hmx] at hl2 ⊢
        exact hl2
      · have hidx : es.findIdx? (fun e => ((e.born : Nat) : Int) == ((es[j].born : Nat) : Int)) = some j := by
          rw [WideElems.findIdx_arr]
          exact WideElems.findIdx_born s2 hl2
        rw [← setBlock_twice (es := es) (c := clock) (es1 := es.modify j (fun e' => { e' with val := val v })) (c1 := clock)]
        generalize setBlock w b (.map es clock) = W1 at hw1 ⊢
        simp [Instr.entryStore, MapKept.run_getObj_map hw1, asInt, asIntOf, goInt, hidx, MapKept.run_setObj_map _ hw1, Result.andThen, setBlock]
      · unfold pairsOf at *
        apply List.ext_getElem
        · simp [hlen]
        · intro i g1 g2
          have h5 := congrArg (fun l => l[i]?) h2
          simp at g1 g2
          simp [g1, g2] at h5
          simp only [List.getElem_map, Array.getElem_toList, Array.getElem_modify, List.getElem_set]
          split
          · rename_i hji
            subst hji
            simp [hkey]
          · simp [h5]
      · rw [born_modify es j (fun e' => { e' with val := val v }) (fun e => rfl)]; exact s1
      · rw [born_modify es j (fun e' => { e' with val := val v }) (fun e => rfl)]; exact s2
end
end Go.Proofs.Ytclkahggfdnpgaa
