/- Maps beside a tree. -/
import Derived.Test.YtclkahggfdnpgaaTrS
import Derived.Test.YtclkahggfdnpgaaTrA
import Derived.Test.YtclkahggfdnpgaaMapB
set_option linter.unusedVariables false
set_option linter.unusedSimpArgs false
namespace Go.Proofs.Ytclkahggfdnpgaa
open Go.RowKit
theorem wrap_in {n : Int} (h : -9223372036854775808 ≤ n ∧ n ≤ 9223372036854775807) : IntKind.i64.wrap n = n := by
  unfold IntKind.wrap; simp only [IntKind.signed, IntKind.bits, IntKind.min, IntKind.max]; first | omega | (simp; omega)
def intK : KeyIn Try.prog 3 Int := intKey Try.prog 3 Try.underlying3
def pairV (a : Int × Int) : Value := .agg #[.int .i64 a.1, .int .i64 a.2]
theorem zv3 (w : World) : (zeroValue 3).run Try.prog w = .ok (iv 0) w := by kernel_rfl
theorem zv98 (w : World) : (zeroValue 98).run Try.prog w = .ok (pairV (0, 0)) w := by kernel_rfl
theorem zv97 (w : World) : (zeroValue 97).run Try.prog w = .ok (CallD.val ⟨0, 0, 0, false⟩) w := by kernel_rfl
section
variable {P : Program} {k e t : TypeId} {κ α : Type} [DecidableEq κ] {K : KeyIn P k κ} {val : α → Value} {w : World} {b n : Nat} {m : κ → Option α}
theorem MapA.look1V (h : MapA K val w b n m) {d : TypeDesc} (hd : P.underlying k = some d) (ht : P.underlying t = some (.map k e)) {zz : α} (hz : (zeroValue e).run P w = .ok (val zz) w) (x : κ) :
    (Instr.lookup t (.map (some b)) (K.enc x) false).run P w = .ok (val ((m x).getD zz)) w := by
  rw [h.look1 hd ht hz x]
  cases m x <;> rfl
theorem MapA.lookV (h : MapA K val w b n m) {d : TypeDesc} (hd : P.underlying k = some d) (ht : P.underlying t = some (.map k e)) {zz : α} (hz : (zeroValue e).run P w = .ok (val zz) w) (x : κ) :
    (Instr.lookup t (.map (some b)) (K.enc x) true).run P w = .ok (.tuple #[val ((m x).getD zz), .bool (m x).isSome]) w := by
  rw [h.look hd ht hz x]
  cases m x <;> rfl
end
/-- Only maps turn that are not the tree's own. -/
def Mapped (w : World) (tb : Nat) (Z : List Nat) : Prop := ∀ z ∈ Z, tb < z ∧ ∃ es cl, w.heap[z]? = some (.map es cl)
theorem Mapped.not_cell {w : World} {tb : Nat} {Z : List Nat} (h : Mapped w tb Z) {b j : Nat} {v : Value} (hc : w.cell? ⟨b, j, none⟩ = some v) : b ∉ Z := by
  intro hb
  obtain ⟨_, es, cl, he⟩ := h b hb
  simp [World.cell?, he] at hc
theorem Mapped.not_row {w : World} {tb : Nat} {Z : List Nat} (h : Mapped w tb Z) {b : Nat} {C : Array Value} {t : TypeId} {q : Nat × Nat} (hr : w.heap[b]? = some (.cells C t q)) : b ∉ Z := by
  intro hb
  obtain ⟨_, es, cl, he⟩ := h b hb
  rw [he] at hr
  cases hr
theorem RowsB.frM {w w' : World} {tb lo hi : Nat} {a : Option Addr} {n k : Nat} {C : Nat → List Value} {Z : List Nat} (h : RowsB w lo hi a n k C) (f : Fr Z w w') (hz : Mapped w tb Z) (hk : 0 < k) (hC : ∀ i, (C i).length = k) : RowsB w' lo hi a n k C := by
  refine ⟨fun h0 => ?_⟩
  obtain ⟨b, o, ha, hb, h1, h2, hc⟩ := h.at_ h0
  have hx : (C 0)[0]? = some ((C 0)[0]'(by rw [hC]; exact hk)) := List.getElem?_eq_getElem _
  have hbZ := hz.not_cell (hc 0 h0 0 _ hx)
  refine ⟨b, o, ha, Nat.lt_of_lt_of_le hb f.size, h1, h2, fun i hi j v hj => ?_⟩
  rw [World.cell?_of_block (f.block b hb hbZ)]
  exact hc i hi j v hj
theorem RowsAt.frM {w w' : World} {tb : Nat} {a : Option Addr} {n k : Nat} {C : Nat → List Value} {Z : List Nat} (h : RowsAt w a n k C) (f : Fr Z w w') (hz : Mapped w tb Z) (hk : 0 < k) (hC : ∀ i, (C i).length = k) : RowsAt w' a n k C := by
  refine ⟨fun h0 => ?_⟩
  obtain ⟨b, o, ha, hb, hc⟩ := h.at_ h0
  have hx : (C 0)[0]? = some ((C 0)[0]'(by rw [hC]; exact hk)) := List.getElem?_eq_getElem _
  have hbZ := hz.not_cell (hc 0 h0 0 _ hx)
  refine ⟨b, o, ha, Nat.lt_of_lt_of_le hb f.size, fun i hi j v hj => ?_⟩
  rw [World.cell?_of_block (f.block b hb hbZ)]
  exact hc i hi j v hj
theorem TreeAt.frM {w w' : World} {tb hi : Nat} {T : TreeD} {Z : List Nat} (h : TreeAt w tb hi T) (f : Fr Z w w') (hz : Mapped w tb Z) : TreeAt w' tb hi T := by
  have hcm := h.cmt
  refine ⟨h.head.fr f (hz.not_row h.head), ⟨h.tmpl.rows.frM f hz (by decide) (fun i => flatcells_len _), fun g hg => ?_⟩, h.map.fr f (fun hm => by have := (hz _ hm).1; omega), h.cmt, h.tbh, ?_, fun x hx => (h.ins x hx).fr f (hz.not_row (h.ins x hx)), fun x hx => ⟨(h.mks x hx).1, (h.mks x hx).2.frM f hz (by decide) (fun i => rfl)⟩, h.apart, h.low, h.nd, h.sep, h.few⟩
  · have hf := h.tmpl.flats g hg
    exact ⟨hf.el, hf.tl, hf.evs.frM f hz (by decide) (fun i => ev_len _), hf.ties.frM f hz (by decide) (fun i => tie_len _), hf.few, hf.few2⟩
  · refine own_frS h.row f (fun y hy => ?_)
    rcases h.row.2 with ⟨h1, _⟩ | ⟨g, cap, cur, hv, _, hg, _⟩
    · rw [h1] at hy; cases hy
    · rw [hv] at hy
      simp [Value.ownBlock] at hy
      subst hy
      exact hz.not_row hg
theorem TreeIs.frM {w w' : World} {tb hi : Nat} {S : List Nat} {P : PT} {Z : List Nat} (h : TreeIs w tb hi S P) (f : Fr Z w w') (hz : Mapped w tb Z) : TreeIs w' tb hi S P := by
  obtain ⟨⟨T, hT, h1, h2⟩, h3⟩ := h
  exact ⟨⟨T, hT.frM f hz, h1, h2⟩, Nat.le_trans h3 f.size⟩
theorem MapA.isMap {P : Program} {k : TypeId} {κ α : Type} [DecidableEq κ] {K : KeyIn P k κ} {val : α → Value} {w : World} {b n : Nat} {m : κ → Option α} (h : MapA K val w b n m) : ∃ es cl, w.heap[b]? = some (.map es cl) := by
  obtain ⟨es, clock, L, h1, _⟩ := h.ex
  exact ⟨es, clock, h1⟩
theorem Mapped.one {P : Program} {k : TypeId} {κ α : Type} [DecidableEq κ] {K : KeyIn P k κ} {val : α → Value} {w : World} {b n tb : Nat} {m : κ → Option α} (h : MapA K val w b n m) (ht : tb < b) : Mapped w tb [b] := fun z hz => by
  obtain rfl := List.mem_singleton.1 hz
  exact ⟨ht, h.isMap⟩
theorem TreeIs.frM' {w w1 w2 : World} {tb hi : Nat} {S : List Nat} {P : PT} {Q : Program} {k : TypeId} {κ α : Type} [DecidableEq κ] {K : KeyIn Q k κ} {val : α → Value} {b n : Nat} {m : κ → Option α} (h : TreeIs w tb hi S P) (f : Fr [] w w1) (f2 : Fr [b] w1 w2) (hm : MapA K val w1 b n m) (ht : tb < b) : TreeIs w2 tb hi S P :=
  (h.fr f).frM f2 (Mapped.one hm ht)
/-- A marking, whatever is told. -/
def MarkW (w : World) (e : Ending) (w' : World) : Prop := ∃ a n c b, e = .returned (.tuple #[.slice a n c, .bool b]) ∧ Fr [] w w'
theorem mark_w {w : World} {tb hi : Nat} {S : List Nat} {P : PT} {n : Nat} (h : TreeIs w tb hi S P) (g : GoodP P n) (hn : n ≤ 900) (id : Int) :
    Calls Try.prog 58 #[.pointer (some ⟨tb, 0, none⟩), .int .i64 id] w (MarkW w) := by
  refine (mark_is h g hn id).mono ?_
  rintro e w' (⟨_, rfl, hF⟩ | ⟨x, _, a, c, rfl, _, _, hF⟩)
  · exact ⟨none, 0, 0, false, rfl, hF⟩
  · exact ⟨a, _, c, true, rfl, hF⟩
/-- A marking of one that lives. -/
def MarkS (M : List MarkD) (w : World) (e : Ending) (w' : World) : Prop := ∃ a c, e = .returned (.tuple #[.slice a M.length c, .bool true]) ∧ MarksAt w' a M.length M ∧ (∀ g o, 0 < M.length → a = some ⟨g, o, none⟩ → w.heap.size ≤ g) ∧ Fr [] w w'
theorem mark_s {w : World} {tb hi : Nat} {S : List Nat} {P : PT} {n : Nat} (h : TreeIs w tb hi S P) (g : GoodP P n) (hn : n ≤ 900) {id : Int} {x : PI} (hx : P.of id = some x) :
    Calls Try.prog 58 #[.pointer (some ⟨tb, 0, none⟩), .int .i64 id] w (MarkS x.m w) := by
  refine (mark_is h g hn id).mono ?_
  rintro e w' (⟨h0, _⟩ | ⟨y, hy, a, c, rfl, hM, hf, hF⟩)
  · rw [hx] at h0; cases h0
  · rw [hx] at hy
    cases hy
    exact ⟨a, c, rfl, hM, hf, hF⟩
theorem sing_rest {P : PT} {tm : Int → Option Int} {ch : Int × Int → Option Int} {fm : Int → Option (Int × Int)} (s : SingI P tm ch fm) {k id at' : Int} (h : ¬ (k = 0 ∨ k = 1)) (h2 : k ≠ 2) : SingI (actF P k id at').2.2 tm ch fm := by
  unfold actF
  rw [if_neg h, if_neg h2]
  split
  · show SingI (tickF P).2 tm ch fm
    unfold tickF
    split
    · exact s
    · exact s.mapL PI.tick (fun x => ⟨rfl, rfl, rfl, rfl⟩)
  · exact s
theorem rest_num {P : PT} {k id at' : Int} (h : ¬ (k = 0 ∨ k = 1)) : (actF P k id at').1 = -1 := by
  unfold actF
  rw [if_neg h]
  split
  · rfl
  · split <;> rfl
theorem cell_frZ {w w' : World} {b j : Nat} {v : Value} {Z : List Nat} {tb : Nat} (h : w.cell? ⟨b, j, none⟩ = some v) (f : Fr Z w w') (hz : Mapped w tb Z) : w'.cell? ⟨b, j, none⟩ = some v := by
  rw [World.cell?_of_block (f.block b (World.block_lt_of_cell? w _ h) (hz.not_cell h))]
  exact h
theorem actF_C (P : PT) (k id at' : Int) : (actF P k id at').2.2.C = P.C := by
  have hd : (doF P id at').2.2.C = P.C := by
    unfold doF
    rcases P.of id with _ | x
    · rfl
    · simp only
      split
      · split
        · rcases P.C ((x.tp : Int), at') with _ | q
          · rfl
          · simp only
            split
            · rfl
            · split <;> rfl
        · rfl
      · rfl
  have he : (endF P id).2.C = P.C := by
    unfold endF
    rcases P.of id with _ | x
    · rfl
    · simp only
      split
      · rfl
      · split
        · rfl
        · split
          · rcases P.of x.par with _ | y
            · rfl
            · simp only
              split <;> rfl
          · rfl
  have ht : (tickF P).2.C = P.C := by
    unfold tickF
    split <;> rfl
  unfold actF
  split
  · exact hd
  · split
    · exact he
    · split
      · exact ht
      · rfl
theorem TreeIs.tb_mem {w : World} {tb hi : Nat} {S : List Nat} {P : PT} (h : TreeIs w tb hi S P) : tb ∈ S := by
  obtain ⟨⟨T, _, _, rfl⟩, _⟩ := h
  exact List.mem_cons_self ..
/-- The law's maps. -/
structure Maps4 (w : World) (tb cb mb xb fb : Nat) (S : List Nat) (Cs : List CallD) (tm : Int → Option Int) (ch : Int × Int → Option Int) (fm : Int → Option (Int × Int)) : Prop where
  call : ∃ n, MapA pairK CallD.val w cb n (callsM Cs Cs.length)
  tm : ∃ n, MapA intK iv w mb n tm
  ch : ∃ n, MapS pairK iv w xb n ch
  fm : ∃ n, MapA intK pairV w fb n fm
  tc : tb < cb
  cm : cb < mb ∧ mb < xb ∧ xb < fb
  ap : cb ∉ S ∧ mb ∉ S ∧ xb ∉ S ∧ fb ∉ S
theorem Maps4.lt {w : World} {tb cb mb xb fb : Nat} {S : List Nat} {Cs : List CallD} {tm : Int → Option Int} {ch : Int × Int → Option Int} {fm : Int → Option (Int × Int)} (h : Maps4 w tb cb mb xb fb S Cs tm ch fm) : fb < w.heap.size := by
  obtain ⟨n, hn⟩ := h.fm
  exact hn.lt
theorem Maps4.fr {w w' : World} {tb cb mb xb fb : Nat} {S : List Nat} {Cs : List CallD} {tm : Int → Option Int} {ch : Int × Int → Option Int} {fm : Int → Option (Int × Int)} (h : Maps4 w tb cb mb xb fb S Cs tm ch fm) (f : Fr [] w w') : Maps4 w' tb cb mb xb fb S Cs tm ch fm := by
  obtain ⟨⟨n1, h1⟩, ⟨n2, h2⟩, ⟨n3, h3⟩, ⟨n4, h4⟩, h5, h6, h7⟩ := h
  exact ⟨⟨n1, h1.fr f (by simp)⟩, ⟨n2, h2.fr f (by simp)⟩, ⟨n3, h3.fr f (by simp)⟩, ⟨n4, h4.fr f (by simp)⟩, h5, h6, h7⟩
theorem Maps4.next {w w' : World} {tb cb mb xb fb : Nat} {S S' : List Nat} {Cs : List CallD} {tm : Int → Option Int} {ch : Int × Int → Option Int} {fm : Int → Option (Int × Int)} (h : Maps4 w tb cb mb xb fb S Cs tm ch fm) (f : Fr S w w') (hS : ∀ y ∈ S', y ∈ S ∨ w.heap.size ≤ y) : Maps4 w' tb cb mb xb fb S' Cs tm ch fm := by
  have hl := h.lt
  obtain ⟨⟨n1, h1⟩, ⟨n2, h2⟩, ⟨n3, h3⟩, ⟨n4, h4⟩, h5, h6, a1, a2, a3, a4⟩ := h
  have key : ∀ z, z ∉ S → z < w.heap.size → z ∉ S' := fun z hz hzl hz' => by
    rcases hS z hz' with h | h
    · exact hz h
    · omega
  exact ⟨⟨n1, h1.fr f a1⟩, ⟨n2, h2.fr f a2⟩, ⟨n3, h3.fr f a3⟩, ⟨n4, h4.fr f a4⟩, h5, h6, key _ a1 (by omega), key _ a2 (by omega), key _ a3 (by omega), key _ a4 (by omega)⟩
section
variable {w : World} {tb cb mb xb fb : Nat} {S : List Nat} {Cs : List CallD} {tm : Int → Option Int} {ch : Int × Int → Option Int} {fm : Int → Option (Int × Int)}
theorem Maps4.rdT (h : Maps4 w tb cb mb xb fb S Cs tm ch fm) (x : Int) : (Instr.lookup 99 (.map (some mb)) (.int .i64 x) false).run Try.prog w = .ok (.int .i64 ((tm x).getD 0)) w := by
  obtain ⟨n, hn⟩ := h.tm
  exact hn.look1V (t := 99) Try.underlying3 Try.underlying99 (zv3 w) x
theorem Maps4.rdC (h : Maps4 w tb cb mb xb fb S Cs tm ch fm) (x y : Int) : (Instr.lookup 95 (.map (some cb)) (.agg #[.int .i64 x, .int .i64 y]) true).run Try.prog w = .ok (.tuple #[((callsM Cs Cs.length (x, y)).getD ⟨0, 0, 0, false⟩).val, .bool (callsM Cs Cs.length (x, y)).isSome]) w := by
  obtain ⟨n, hn⟩ := h.call
  exact hn.lookV (t := 95) Try.underlying98 Try.underlying95 (zv97 w) (x, y)
theorem Maps4.rdX (h : Maps4 w tb cb mb xb fb S Cs tm ch fm) (x y : Int) : (Instr.lookup 100 (.map (some xb)) (.agg #[.int .i64 x, .int .i64 y]) false).run Try.prog w = .ok (.int .i64 ((ch (x, y)).getD 0)) w := by
  obtain ⟨n, hn⟩ := h.ch
  exact hn.toA.look1V (t := 100) Try.underlying98 Try.underlying100 (zv3 w) (x, y)
theorem Maps4.rdF (h : Maps4 w tb cb mb xb fb S Cs tm ch fm) (x : Int) : (Instr.lookup 101 (.map (some fb)) (.int .i64 x) false).run Try.prog w = .ok (.agg #[.int .i64 ((fm x).getD (0, 0)).1, .int .i64 ((fm x).getD (0, 0)).2]) w := by
  obtain ⟨n, hn⟩ := h.fm
  exact hn.look1V (t := 101) Try.underlying3 Try.underlying101 (zv98 w) x
theorem Maps4.wrT (h : Maps4 w tb cb mb xb fb S Cs tm ch fm) (x v : Int) : ∃ w', (Instr.mapUpdate 99 (.map (some mb)) (.int .i64 x) (.int .i64 v)).run Try.prog w = .ok () w' ∧ Maps4 w' tb cb mb xb fb S Cs (fun y => if y = x then some v else tm y) ch fm ∧ Fr [mb] w w' ∧ Mapped w tb [mb] := by
  have htc := h.tc
  have hcm := h.cm
  obtain ⟨⟨n1, h1⟩, ⟨n2, h2⟩, ⟨n3, h3⟩, ⟨n4, h4⟩, h5, h6, h7⟩ := h
  obtain ⟨w', hr, hm, hf⟩ := h2.store (t := 99) Try.underlying3 Try.underlying99 x v
  exact ⟨w', hr, ⟨⟨n1, h1.fr hf (by simp; omega)⟩, ⟨_, hm⟩, ⟨n3, h3.fr hf (by simp; omega)⟩, ⟨n4, h4.fr hf (by simp; omega)⟩, h5, h6, h7⟩, hf, Mapped.one h2 (by omega)⟩
theorem Maps4.wrF (h : Maps4 w tb cb mb xb fb S Cs tm ch fm) (x u v : Int) : ∃ w', (Instr.mapUpdate 101 (.map (some fb)) (.int .i64 x) (.agg #[.int .i64 u, .int .i64 v])).run Try.prog w = .ok () w' ∧ Maps4 w' tb cb mb xb fb S Cs tm ch (fun y => if y = x then some (u, v) else fm y) ∧ Fr [fb] w w' ∧ Mapped w tb [fb] := by
  have htc := h.tc
  have hcm := h.cm
  obtain ⟨⟨n1, h1⟩, ⟨n2, h2⟩, ⟨n3, h3⟩, ⟨n4, h4⟩, h5, h6, h7⟩ := h
  obtain ⟨w', hr, hm, hf⟩ := h4.store (t := 101) Try.underlying3 Try.underlying101 x (u, v)
  exact ⟨w', hr, ⟨⟨n1, h1.fr hf (by simp; omega)⟩, ⟨n2, h2.fr hf (by simp; omega)⟩, ⟨n3, h3.fr hf (by simp; omega)⟩, ⟨_, hm⟩, h5, h6, h7⟩, hf, Mapped.one h4 (by omega)⟩
theorem Maps4.enX (h : Maps4 w tb cb mb xb fb S Cs tm ch fm) (x y v : Int) : ∃ (v0 : Value) (st : Nat) (w1 w2 : World), (Instr.mapEntry 100 (.map (some xb)) (.agg #[.int .i64 x, .int .i64 y])).run Try.prog w = .ok (.tuple #[v0, goInt st]) w1 ∧ Fr [xb] w w1 ∧
      (Instr.lookup 100 (.map (some xb)) (.agg #[.int .i64 x, .int .i64 y]) false).run Try.prog w1 = .ok (.int .i64 ((ch (x, y)).getD 0)) w1 ∧
      (Instr.entryStore 100 (.map (some xb)) (goInt st) (.int .i64 v)).run Try.prog w1 = .ok () w2 ∧ Maps4 w2 tb cb mb xb fb S Cs tm (fun z => if z = (x, y) then some v else ch z) fm ∧ Fr [xb] w w2 ∧ Mapped w tb [xb] := by
  have htc := h.tc
  have hcm := h.cm
  obtain ⟨⟨n1, h1⟩, ⟨n2, h2⟩, ⟨n3, h3⟩, ⟨n4, h4⟩, h5, h6, h7⟩ := h
  obtain ⟨v0, st, w1, w2, hr1, hf1, hl, hr2, hm, hf⟩ := h3.entry (t := 100) Try.underlying98 Try.underlying100 (zz := 0) zv3 (x, y) v
  exact ⟨v0, st, w1, w2, hr1, hf1, hl, hr2, ⟨⟨n1, h1.fr hf (by simp; omega)⟩, ⟨n2, h2.fr hf (by simp; omega)⟩, ⟨_, hm⟩, ⟨n4, h4.fr hf (by simp; omega)⟩, h5, h6, h7⟩, hf, Mapped.one h3.toA (by omega)⟩
end
end Go.Proofs.Ytclkahggfdnpgaa
