/- An entry of a map laid and stored into: as an update. -/
import Derived.Test.YtpjmmhpkiepbmaaMaps
import Derived.WideKeyEntry
set_option linter.unusedVariables false
set_option linter.unusedSimpArgs false
namespace Go.Proofs.Ytpjmmhpkiepbmaa
open Go.Maps
open Go.ChangeMaps (setBlock)
theorem setBlock_twice {w : World} {b : Nat} {es es1 : Array MapEntry} {c c1 : Nat} : setBlock (setBlock w b (.map es c)) b (.map es1 c1) = setBlock w b (.map es1 c1) := by
  simp [setBlock]
section
variable {P : Program} {k e t : TypeId} {α : Type} {E : ElemOf P e α} {w : World} {b n : Nat} {m : Int → Option α}
theorem MapF.entry (h : MapF P k e E w b n m) (hk : P.underlying k = some (.int .i64)) (ht : P.underlying t = some (.map k e)) (hn : n < maxLen) {x : Int} (hx : inI x) {v : α} (hv : E.good v) :
    ∃ (v0 : Value) (st : Nat) (w1 w2 : World), (Instr.mapEntry t (.map (some b)) (.int .i64 x)).run P w = .ok (.tuple #[v0, goInt st]) w1 ∧ Fr [b] w w1 ∧
      (Instr.entryStore t (.map (some b)) (goInt st) (E.val v)).run P w1 = .ok () w2 ∧ MapF P k e E w2 b (n + 1) (fun y => if y = x then some v else m y) ∧ Fr [b] w w2 := by
  obtain ⟨w', hup, hm', hf'⟩ := h.store hk ht hn hx hv
  obtain ⟨D, ⟨es, clock, hb, F, hs, hD⟩, h3⟩ := h.owns
  have K : Keyed P k := int_keyed hk
  have hkey := key_of (P := P) hk hx
  have hlt : b < w.heap.size := (Array.getElem?_eq_some_iff.1 hb).1
  have hz := E.hz
  obtain ⟨s1, s2, _⟩ := F.stamped
  rcases K.find w hkey es.toList F.keys with ⟨h1, h2⟩ | ⟨j, e0, h1, h2, h4⟩
  · have hw1 : (setBlock w b (.map (es.push ⟨.int .i64 x, E.val E.zero, clock⟩) (clock + 1))).heap[b]? = some (.map (es.push ⟨.int .i64 x, E.val E.zero, clock⟩) (clock + 1)) := ChangeMaps.heap_setBlock_same hb _
    refine ⟨E.val E.zero, clock, setBlock w b (.map (es.push ⟨.int .i64 x, E.val E.zero, clock⟩) (clock + 1)), w', ?_, ?_, ?_, hm', hf'⟩
    · simp [Instr.mapEntry, run_underlying ht, MapKept.run_getObj_map hb, K.check w false hkey, h1, hz, MapKept.run_setObj_map _ hb, Result.andThen, setBlock]
    · exact ⟨rfl, rfl, rfl, by simp [setBlock], fun i hi hne => ChangeMaps.heap_setBlock_other hb _ (fun e => hne (by simp [e]))⟩
    · have hidx : (es.push ⟨.int .i64 x, E.val E.zero, clock⟩).findIdx? (fun e => ((e.born : Nat) : Int) == ((clock : Nat) : Int)) = some es.size := by
        rw [WideElems.findIdx_arr]
        exact WideElems.findIdx_born (l := (es.push ⟨.int .i64 x, E.val E.zero, clock⟩).toList) (j := es.size) (e0 := ⟨.int .i64 x, E.val E.zero, clock⟩) (by
          simp only [Array.toList_push, List.map_append, List.map_cons, List.map_nil]
          refine List.nodup_append.2 ⟨s2, by simp, fun a ha c hc e1 => ?_⟩
          simp only [List.mem_singleton] at hc
          obtain ⟨y, hy, rfl⟩ := List.mem_map.1 ha
          have := s1 y hy
          omega) (by simp)
      have hmod : (es.push ⟨.int .i64 x, E.val E.zero, clock⟩).modify es.size (fun e => { e with val := E.val v }) = es.push ⟨.int .i64 x, E.val v, clock⟩ := by
        apply Array.ext'
        rw [Array.toList_modify, Array.toList_push, Array.toList_push, ← Array.length_toList, WideElems.modify_last]
      have hup2 : (Instr.mapUpdate t (.map (some b)) (.int .i64 x) (E.val v)).run P w = .ok () (setBlock w b (.map (es.push ⟨.int .i64 x, E.val v, clock⟩) (clock + 1))) := by
        simp [Instr.mapUpdate, run_underlying ht, MapKept.run_getObj_map hb, K.check w false hkey, h1, MapKept.run_setObj_map _ hb, Result.andThen, setBlock]
      have hww : w' = setBlock w b (.map (es.push ⟨.int .i64 x, E.val v, clock⟩) (clock + 1)) := by
        rw [hup] at hup2
        injection hup2
      rw [hww, ← setBlock_twice (es := es.push ⟨.int .i64 x, E.val E.zero, clock⟩) (c := clock + 1) (es1 := es.push ⟨.int .i64 x, E.val v, clock⟩) (c1 := clock + 1)]
      generalize setBlock w b (.map (es.push ⟨.int .i64 x, E.val E.zero, clock⟩) (clock + 1)) = W1 at hw1 ⊢
      simp [Instr.entryStore, MapKept.run_getObj_map hw1, asInt, asIntOf, goInt, hidx, hmod, MapKept.run_setObj_map _ hw1, Result.andThen, setBlock]
  · have hj : es[j]? = some e0 := by simpa using h2
    have hsame : es.modify j (fun e => { e with key := .int .i64 x }) = es := by
      apply Array.ext'
      rw [Array.toList_modify, ChangeMaps.modify_eq_set _ _ _ _ h2]
      have : ({ e0 with key := .int .i64 x } : MapEntry) = e0 := by rw [← h4]
      rw [this]
      exact WideElems.set_self _ _ _ h2
    have hw1 : (setBlock w b (.map es clock)).heap[b]? = some (.map es clock) := ChangeMaps.heap_setBlock_same hb _
    refine ⟨e0.val, e0.born, setBlock w b (.map es clock), w', ?_, ?_, ?_, hm', hf'⟩
    · simp [Instr.mapEntry, run_underlying ht, MapKept.run_getObj_map hb, K.check w false hkey, h1, hj, h4, K.stays w hkey, hsame, MapKept.run_setObj_map _ hb, Result.andThen, setBlock]
    · exact ⟨rfl, rfl, rfl, by simp [setBlock], fun i hi hne => ChangeMaps.heap_setBlock_other hb _ (fun e => hne (by simp [e]))⟩
    · have hidx : es.findIdx? (fun e => ((e.born : Nat) : Int) == ((e0.born : Nat) : Int)) = some j := by
        rw [WideElems.findIdx_arr]
        exact WideElems.findIdx_born s2 h2
      have hmod : es.modify j (fun e => { e with val := E.val v }) = es.modify j (fun e' => { e' with key := .int .i64 x, val := E.val v }) := by
        apply Array.ext'
        rw [Array.toList_modify, Array.toList_modify, ChangeMaps.modify_eq_set _ _ _ _ h2, ChangeMaps.modify_eq_set _ _ _ _ h2, ← h4]
      have hup2 : (Instr.mapUpdate t (.map (some b)) (.int .i64 x) (E.val v)).run P w = .ok () (setBlock w b (.map (es.modify j (fun e' => { e' with key := .int .i64 x, val := E.val v })) clock)) := by
        simp [Instr.mapUpdate, run_underlying ht, MapKept.run_getObj_map hb, K.check w false hkey, h1, hj, h4, K.stays w hkey, MapKept.run_setObj_map _ hb, Result.andThen, setBlock]
      have hww : w' = setBlock w b (.map (es.modify j (fun e' => { e' with key := .int .i64 x, val := E.val v })) clock) := by
        rw [hup] at hup2
        injection hup2
      rw [hww, ← setBlock_twice (es := es) (c := clock) (es1 := es.modify j (fun e' => { e' with key := .int .i64 x, val := E.val v })) (c1 := clock)]
      generalize setBlock w b (.map es clock) = W1 at hw1 ⊢
      simp [Instr.entryStore, MapKept.run_getObj_map hw1, asInt, asIntOf, goInt, hidx, hmod, MapKept.run_setObj_map _ hw1, Result.andThen, setBlock]
end
end Go.Proofs.Ytpjmmhpkiepbmaa
