/- Parts of the proof: Tr7, RegM. (Merged by pack.py.) -/
import Derived.Test.YtclkahggfdnpgaaDz7
import Derived.Deep.AppendLies
import Derived.Maps.AppendAt
import Derived.Deep.RegionHeld
import Derived.StillTail
set_option linter.unusedVariables false
set_option linter.unusedSimpArgs false
namespace Go.Proofs.Ytclkahggfdnpgaa
open Go.RowKit
theorem fr_grown {w w' : World} {v : Value} (h : w.grownBy w' v.ownBlock) : Fr v.ownBlock.toList w w' := Fr.of_grown h _ (fun k hk => .inl (by rw [hk]; simp))
/-- append of rows onto a row of the call's own. -/
theorem step_append_rows {ops : Array Oper} {o : Oper} {a : Act} {w : World} {K : Act → World → Prop} {Q : Exit → Act → World → Prop} {F : Prop} (hgd : o.guard = none) (s x : Operand) (t e k b : Nat)
    (ho : o.op = .call { callee := .builtin .append, args := #[s, x], argTypes := #[t, t] }) (hu : Try.prog.underlying t = some (.slice e)) (hi : (Try.prog.info? e).map (fun i => (i.zero.map (·.cells.size), i.size, i.bytes)) = some (some k, k, b)) (hk : 0 < k) (hb : b ≤ 1000)
    (base : Nat) (v : Value) (n : Nat) (xs : List Value) (hs : a.eval s = v) (hown : w.ownsRow base e k v n xs)
    (ad : Addr) (m c : Nat) (news : List Value) (hx : a.eval x = .slice (some ad) m c) (hl : news.length = m * k) (hnews : ∀ j u, news[j]? = some u → w.cell? (ad.add j) = some u) (h1 : ∀ u ∈ news, u.oneCell' = true)
    (few : n + m ≤ 3000) (hbase : base ≤ w.heap.size)
    (h : ∀ v' w', w'.ownsRow base e k v' (n + m) (xs ++ news) → w.grownBy w' v.ownBlock → (v'.ownBlock = v.ownBlock ∨ v'.ownBlock = some w.heap.size) → K (a.put o.dst v') w') :
    if Region.wanted o (yielded ops a.tmps) = true then Oper.wp Try.prog o a w K Q else F := by
  have hw : Region.wanted o (yielded ops a.tmps) = true := by simp [Region.wanted, hgd]
  rw [if_pos hw]
  obtain ⟨i0, z0, hi0, hz0, hz1, hz2, hz3⟩ := info_ex hi
  have hby : (n + m) * b ≤ 140737488355328 := by
    have h1 : (n + m) * b ≤ 3000 * 1000 := Nat.mul_le_mul few hb
    omega
  obtain ⟨v', w', hr, h2, h3, _, h5⟩ := run_append_own_at (P := Try.prog) w base t o.type e i0 z0 k b hu hi0 hz0 hz1 hz2 hz3 hk v n xs hown ad m c news hl hnews h1 (by unfold maxLen; omega) hby hbase
  unfold Oper.wp execOp
  simp only [ho, resolve, invoke, builtin, Sem.run_bind, Sem.run_pure, Result.andThen_ok, List.map_toArray, List.map_cons, List.map_nil, hs, hx, hr]
  exact h v' w' h2 h3 h5
/-- The blocks of a tree that may turn. -/
def TreeD.blocks (T : TreeD) (tb : Nat) : List Nat := tb :: (T.v.ownBlock.toList ++ T.L.map (·.b))
theorem TreeAt.mkT {w w' : World} {tb hi : Nat} {T : TreeD} (h : TreeAt w tb hi T) (f : Fr (T.blocks tb) w w') {x : InsD} (hx : x ∈ T.L) : MarksAt w' x.a x.m.length x.m := by
  obtain ⟨hl, hR⟩ := h.mks x hx
  refine ⟨hl, ⟨fun h0 => ?_⟩⟩
  obtain ⟨g, o, ha, hb, hc⟩ := hR.at_ h0
  have h1 := hc 0 h0 0 _ rfl
  have hbS : g ∉ T.blocks tb := by
    intro hg
    rcases List.mem_cons.1 hg with rfl | hg
    · exact h.nob_head _ _ h1
    · rcases List.mem_append.1 hg with hg | hg
      · exact h.apart x hx h0 g o ha (by simpa using hg)
      · obtain ⟨y, hy, rfl⟩ := List.mem_map.1 hg
        exact h.nob_ins hy _ _ h1
  refine ⟨g, o, ha, Nat.lt_of_lt_of_le hb f.size, fun i hi j v hj => ?_⟩
  rw [World.cell?_of_block (f.block g hb hbS)]
  exact hc i hi j v hj
theorem TreeAt.blocks_lo {w : World} {tb hi : Nat} {T : TreeD} (h : TreeAt w tb hi T) {y : Nat} (hy : y ∈ T.blocks tb) : y = tb ∨ hi ≤ y := by
  rcases List.mem_cons.1 hy with rfl | hy
  · exact .inl rfl
  · rcases List.mem_append.1 hy with hy | hy
    · exact .inr ((h.row.lt y (by simpa using hy)).1)
    · obtain ⟨x, hx, rfl⟩ := List.mem_map.1 hy
      exact .inr (h.low x hx)
theorem TreeAt.tmT {w w' : World} {tb hi : Nat} {T : TreeD} (h : TreeAt w tb hi T) (f : Fr (T.blocks tb) w w') : Tmpl w' (tb + 1) hi T.ta T.Fs := h.tmpl.fr f (fun y hy => by rcases h.blocks_lo hy with h1 | h1 <;> omega)
theorem TreeAt.mpT {w w' : World} {tb hi : Nat} {T : TreeD} (h : TreeAt w tb hi T) (f : Fr (T.blocks tb) w w') : MapA pairK CallD.val w' T.cm 1000 T.C := h.map.fr f (fun hy => by have := h.cmt; have := h.tbh; rcases h.blocks_lo hy with h1 | h1 <;> omega)
theorem TreeAt.rowlt {w : World} {tb hi : Nat} {T : TreeD} (h : TreeAt w tb hi T) {y : Nat} (hy : T.v.ownBlock = some y) : hi ≤ y ∧ y < w.heap.size := h.row.lt y hy
/-- A block that holds a marking. -/
def TreeD.mblk (T : TreeD) (g : Nat) : Prop := ∃ x ∈ T.L, ∃ o, 0 < x.m.length ∧ x.a = some ⟨g, o, none⟩
/-- A tree behind an act: its blocks are its own or new ones, and so are its markings'. -/
def NextT (tb hi : Nat) (T T' : TreeD) (w w' : World) : Prop := TreeAt w' tb hi T' ∧ Fr (T.blocks tb) w w' ∧ (∀ y ∈ T'.blocks tb, y ∈ T.blocks tb ∨ w.heap.size ≤ y) ∧ T'.cm = T.cm ∧ ∀ g, T'.mblk g → T.mblk g ∨ w.heap.size ≤ g
def InsD.plain (x : InsD) : Int × Nat × List MarkD × Int × Int := (x.id, x.tp, x.m, x.par, x.ev)
/-- What a tree is without its places. -/
def SpawnP (tb hi : Nat) (T : TreeD) (tp : Nat) (par ev : Int) (M : List MarkD) (w : World) (e : Ending) (w' : World) : Prop :=
  e = .returned (.int .i64 T.next) ∧ ∃ v x, x.plain = ((T.next : Int), tp, M, par, ev) ∧ NextT tb hi T { T with v := v, L := T.L ++ [x], next := T.next + 1 } w w'
theorem MarksAt.frB {w w' : World} {a : Option Addr} {n : Nat} {M : List MarkD} {S : List Nat} (h : MarksAt w a n M) (f : Fr S w w') (hS : 0 < n → ∀ g o, a = some ⟨g, o, none⟩ → g ∉ S) : MarksAt w' a n M := by
  refine ⟨h.1, ⟨fun h0 => ?_⟩⟩
  obtain ⟨b, o, rfl, hb, hc⟩ := h.2.at_ h0
  refine ⟨b, o, rfl, Nat.lt_of_lt_of_le hb f.size, fun i hi j v hj => ?_⟩
  rw [World.cell?_of_block (f.block b hb (hS h0 b o rfl))]
  exact hc i hi j v hj
theorem spawn_fin {w w5 w6 : World} {tb hi : Nat} {T : TreeD} {x : InsD} {v' : Value} (h : TreeAt w tb hi T) (hhi : hi ≤ w.heap.size) (f5 : Fr [] w w5) (hx : Row w5 x.b x.cells 130) (hxb : w.heap.size ≤ x.b) (hm : MarksAt w5 x.a x.m.length x.m) (ha : ∀ g o, x.a = some ⟨g, o, none⟩ → w.heap.size ≤ g)
    (own : w6.ownsRow hi 127 1 v' (T.L.length + 1) (T.L.map InsD.ptr ++ [x.ptr])) (gr : w5.grownBy w6 T.v.ownBlock) (hor : v'.ownBlock = T.v.ownBlock ∨ v'.ownBlock = some w5.heap.size) (hfw : T.L.length < 40) :
    NextT tb hi T { T with v := v', L := T.L ++ [x], next := T.next + 1 } w ((w6.setCell ⟨tb, 2, none⟩ v').setCell ⟨tb, 3, none⟩ (.int .i64 ((T.next : Int) + 1))) := by
  have f56 : Fr T.v.ownBlock.toList w5 w6 := fr_grown gr
  have fS : Fr (tb :: T.v.ownBlock.toList) w6 ((w6.setCell ⟨tb, 2, none⟩ v').setCell ⟨tb, 3, none⟩ (.int .i64 ((T.next : Int) + 1))) := ((Fr.refl _ w6).setCell (.inl (by simp)) _).setCell (.inl (by simp)) _
  have f58 : Fr (tb :: T.v.ownBlock.toList) w5 ((w6.setCell ⟨tb, 2, none⟩ v').setCell ⟨tb, 3, none⟩ (.int .i64 ((T.next : Int) + 1))) := (f56.mono (fun y hy => .inl (List.mem_cons_of_mem _ hy))).trans fS (fun y hy => .inl hy)
  have f8 : Fr (tb :: T.v.ownBlock.toList) w ((w6.setCell ⟨tb, 2, none⟩ v').setCell ⟨tb, 3, none⟩ (.int .i64 ((T.next : Int) + 1))) := (f5.mono (by simp)).trans f58 (fun y hy => .inl hy)
  have fB : Fr (T.blocks tb) w ((w6.setCell ⟨tb, 2, none⟩ v').setCell ⟨tb, 3, none⟩ (.int .i64 ((T.next : Int) + 1))) := f8.mono (fun y hy => by
    rcases List.mem_cons.1 hy with rfl | hy
    · exact .inl (by unfold TreeD.blocks; simp)
    · exact .inl (by unfold TreeD.blocks; simp only [List.mem_cons, List.mem_append]; exact .inr (.inl hy)))
  have h5 := h.fr f5
  have hown : ∀ y, T.v.ownBlock = some y → hi ≤ y ∧ y < w.heap.size := fun y hy => h.rowlt hy
  have htl := h.head.lt
  have htbh := h.tbh
  have hs5 := f5.size
  have hnot : ∀ y, y ∈ T.v.ownBlock.toList → hi ≤ y ∧ y < w.heap.size := fun y hy => hown y (by simpa using hy)
  have hv' : ∀ y, v'.ownBlock = some y → hi ≤ y := fun y hy => (own.lt y hy).1
  have hmb : 0 < x.m.length → ∀ g o, x.a = some ⟨g, o, none⟩ → w.heap.size ≤ g ∧ g < w5.heap.size := fun h0 g o hg => by
    obtain ⟨b, o', hb1, hb2, _⟩ := hm.2.at_ h0
    rw [hg] at hb1
    cases hb1
    exact ⟨ha _ _ hg, hb2⟩
  refine ⟨⟨?_, h.tmT fB, h.mpT fB, h.cmt, h.tbh, ?_, ?_, ?_, ?_, ?_, ?_, ?_, ?_⟩, fB, ?_, rfl, ?_⟩
  · have r6 := h5.head.fr f56 (fun hy => by have := hnot tb hy; omega)
    exact (r6.setCell 2 v').setCell 3 _
  · rw [show (T.L ++ [x]).length = T.L.length + 1 by simp, List.map_append]
    refine own_frS (S := [tb]) own (((Fr.refl _ w6).setCell (.inl (by simp)) _).setCell (.inl (by simp)) _) (fun y hy => ?_)
    have := hv' y hy
    simp
    omega
  · intro y hy
    rcases List.mem_append.1 hy with hy | hy
    · refine (h.ins y hy).fr f8 (fun hb => ?_)
      have hl := h.low y hy
      rcases List.mem_cons.1 hb with hb | hb
      · omega
      · exact h.sep y hy (by simpa using hb)
    · obtain rfl := List.mem_singleton.1 hy
      refine hx.fr f58 (fun hb => ?_)
      rcases List.mem_cons.1 hb with hb | hb
      · omega
      · have := hnot _ hb; omega
  · intro y hy
    rcases List.mem_append.1 hy with hy | hy
    · exact h.mkT fB hy
    · obtain rfl := List.mem_singleton.1 hy
      refine hm.frB f58 (fun h0 g o hg hb => ?_)
      have h1 := hmb h0 g o hg
      rcases List.mem_cons.1 hb with hb | hb
      · omega
      · have := hnot _ hb; omega
  · intro y hy h0 g o hg hv
    rcases List.mem_append.1 hy with hy | hy
    · rcases hor with ho | ho
      · exact h.apart y hy h0 g o hg (ho ▸ hv)
      · obtain ⟨b, o', hb1, hb2, _⟩ := (h.mks y hy).2.at_ h0
        rw [hg] at hb1
        cases hb1
        have : v'.ownBlock = some g := hv
        rw [ho] at this
        simp at this
        omega
    · obtain rfl := List.mem_singleton.1 hy
      have h1 := hmb h0 g o hg
      have h2 : v'.ownBlock = some g := hv
      rcases hor with ho | ho
      · rw [ho] at h2
        have := hown g h2
        omega
      · rw [ho] at h2
        simp at h2
        omega
  · intro y hy
    rcases List.mem_append.1 hy with hy | hy
    · exact h.low y hy
    · obtain rfl := List.mem_singleton.1 hy
      omega
  · show ((T.L ++ [x]).map (·.b)).Nodup
    rw [List.map_append, List.nodup_append]
    refine ⟨h.nd, by simp, ?_⟩
    intro a ha b hb
    obtain ⟨y, hy, rfl⟩ := List.mem_map.1 ha
    have := (h.ins y hy).lt
    simp at hb
    omega
  · intro y hy hv
    have h2 : v'.ownBlock = some y.b := hv
    rcases List.mem_append.1 hy with hy | hy
    · rcases hor with ho | ho
      · exact h.sep y hy (ho ▸ h2)
      · have := (h.ins y hy).lt
        rw [ho] at h2
        simp at h2
        omega
    · obtain rfl := List.mem_singleton.1 hy
      have := hx.lt
      rcases hor with ho | ho
      · rw [ho] at h2
        have := hown _ h2
        omega
      · rw [ho] at h2
        simp at h2
        omega
  · show (T.L ++ [x]).length ≤ 40
    simp; omega
  · intro y hy
    unfold TreeD.blocks at hy ⊢
    simp only [List.map_append, List.mem_cons, List.mem_append, Option.mem_toList, List.map_cons, List.map_nil, List.not_mem_nil, or_false] at hy ⊢
    rcases hy with rfl | hy | hy | rfl
    · exact .inl (.inl rfl)
    · rcases hor with ho | ho
      · exact .inl (.inr (.inl (ho ▸ hy)))
      · rw [ho] at hy
        simp at hy
        exact .inr (by omega)
    · exact .inl (.inr (.inr hy))
    · exact .inr hxb
  · rintro g ⟨y, hy, o, h0, hya⟩
    rcases List.mem_append.1 hy with hy | hy
    · exact .inl ⟨y, hy, o, h0, hya⟩
    · obtain rfl := List.mem_singleton.1 hy
      exact .inr (hmb h0 g o hya).1
set_option maxHeartbeats 4000000 in
set_option maxRecDepth 100000 in
theorem spawn_any (tb hi : Nat) (T : TreeD) (tp : Nat) (par ev : Int) (f : FlatD) (w : World) (h : TreeAt w tb hi T) (ht : tp < T.Fs.length) (hf : T.Fs.getD tp default = f) (hhi : hi ≤ w.heap.size) (hn : T.next ≤ 900) (hfw : T.L.length < 40) :
    Calls Try.prog 74 #[.pointer (some ⟨tb, 0, none⟩), .int .i64 tp, .int .i64 par, .int .i64 ev] w (SpawnP tb hi T tp par ev (f.E.map startM) w) := by
  have HH := Lib.hid h
  obtain ⟨a, c, hv, hlc, hp⟩ := h.vform
  have hfB : FlatB w (tb + 1) hi f := h.tmpl.flats f (by rw [← hf]; exact getD_memD _ _ ht)
  obtain ⟨gt, ot, ha, hgt, hgt1, hgt2, hct⟩ := h.tmpl.rows.at_ (by omega)
  have HC1 := Lib.hid (hct tp ht 0 (.slice f.ea f.en f.ec) (by rw [hf]; rfl))
  have HC2 := Lib.hid (hct tp ht 1 (.slice f.ta f.tn f.tc) (by rw [hf]; rfl))
  have HO := Lib.hid (fun y (hy : T.v.ownBlock = some y) => h.rowlt hy)
  have htl := h.head.lt
  have htbh := h.tbh
  have KEEP := Lib.hid (fun W' (f' : Fr T.v.ownBlock.toList w W') => by
      have n1 : tb ∉ T.v.ownBlock.toList := fun hy => by have := (HO.out tb (by simpa using hy)).1; omega
      have n2 : gt ∉ T.v.ownBlock.toList := fun hy => by have := (HO.out gt (by simpa using hy)).1; omega
      refine ⟨?_, ?_, ?_, ?_, ?_⟩
      · rw [← hv]; exact (h.head.fr f' n1).cell 2
      · exact (h.head.fr f' n1).cell 3
      · rw [← ha]; exact (h.head.fr f' n1).cell 0
      · rw [World.cell?_of_block (f'.block gt hgt n2)]; exact HC1.out
      · rw [World.cell?_of_block (f'.block gt hgt n2)]; exact HC2.out : ∀ W', Fr T.v.ownBlock.toList w W' → (W'.cell? ⟨tb, 2, none⟩ = some (.slice a T.L.length c) ∧ W'.cell? ⟨tb, 3, none⟩ = some (.int .i64 T.next) ∧ W'.cell? ⟨tb, 0, none⟩ = some (.slice (some ⟨gt, ot, none⟩) T.Fs.length T.tc) ∧ W'.cell? ⟨gt, ot + tp * 2 + 0, none⟩ = some (.slice f.ea f.en f.ec) ∧ W'.cell? ⟨gt, ot + tp * 2 + 1, none⟩ = some (.slice f.ta f.tn f.tc)))
  simp only [Nat.add_zero] at KEEP
  have D1 := Lib.hid (start_fresh f w.drew (hfB.at.fr ((Fr.refl [] w).drew)))
  have HV := Lib.hid hv
  have HNL := Lib.hid hn
  unfold FlatD.val at D1
  obtain ⟨n, hnn⟩ : ∃ n, n = T.L.length := ⟨_, rfl⟩
  obtain ⟨nx, hnx⟩ : ∃ n, n = T.next := ⟨_, rfl⟩
  obtain ⟨nt, hnt⟩ : ∃ n, n = T.Fs.length := ⟨_, rfl⟩
  rw [← hnn, ← hnx, ← hnt] at KEEP
  rw [← hnn] at hfw hlc
  rw [← hnx] at hn
  rw [← hnt] at ht
  have HNN := Lib.hid hnn
  have HNX := Lib.hid hnx
  clear h hp hv ha hct hf hfB hnn hnx hnt
  go_enter Try.func74, Try.ntmps74
  go_wp2_with fail
  refine wp_region_last (S := (fun W' => W'.cell? ⟨tb, 2, none⟩ = some (.slice a n c) ∧ W'.cell? ⟨tb, 3, none⟩ = some (.int .i64 nx) ∧ W'.cell? ⟨tb, 0, none⟩ = some (.slice (some ⟨gt, ot, none⟩) nt T.tc) ∧ W'.cell? ⟨gt, ot + tp * 2, none⟩ = some (.slice f.ea f.en f.ec) ∧ W'.cell? ⟨gt, ot + tp * 2 + 1, none⟩ = some (.slice f.ta f.tn f.tc))) 26 (by kernel_rfl) (KEEP.out _ ((Fr.refl _ w).drew)) (fun hHeld => ?_)
  refine wpAnyL_take (i := 0) (v := ?_) rfl (by kernel_rfl) (by kernel_rfl) (by kernel_rfl) (by kernel_rfl) (fun _ _ _ h => h) (Or.inl ⟨rfl, ?_⟩) hHeld ?_
  rotate_left
  · (intro w hSw; (try dsimp only at hSw); go_simp; try (with_reducible rfl))
  simp only [List.getElem_toArray, List.getElem_cons_succ, List.getElem_cons_zero, Act.put, List.setIfInBounds_toArray, List.set_cons_zero, List.set_cons_succ]
  refine wpAnyL_take (i := 1) (v := ?_) rfl (by kernel_rfl) (by kernel_rfl) (by kernel_rfl) (by kernel_rfl) (fun _ _ _ h => h) (Or.inl ⟨rfl, ?_⟩) hHeld ?_
  rotate_left
  · (intro w hSw; (try dsimp only at hSw); go_simp; try (with_reducible rfl))
  simp only [List.getElem_toArray, List.getElem_cons_succ, List.getElem_cons_zero, Act.put, List.setIfInBounds_toArray, List.set_cons_zero, List.set_cons_succ]
  refine wpAnyL_take (i := 2) (v := ?_) rfl (by kernel_rfl) (by kernel_rfl) (by kernel_rfl) (by kernel_rfl) (fun _ _ _ h => h) (Or.inl ⟨rfl, ?_⟩) hHeld ?_
  rotate_left
  · (intro w hSw; (try dsimp only at hSw); go_simp; try (with_reducible rfl))
  simp only [List.getElem_toArray, List.getElem_cons_succ, List.getElem_cons_zero, Act.put, List.setIfInBounds_toArray, List.set_cons_zero, List.set_cons_succ]
  refine wpAnyL_take (i := 3) (v := ?_) rfl (by kernel_rfl) (by kernel_rfl) (by kernel_rfl) (by kernel_rfl) (fun _ _ _ h => h) (Or.inl ⟨rfl, ?_⟩) hHeld ?_
  rotate_left
  · (intro w hSw; (try dsimp only at hSw); go_simp; try (with_reducible rfl))
  simp only [List.getElem_toArray, List.getElem_cons_succ, List.getElem_cons_zero, Act.put, List.setIfInBounds_toArray, List.set_cons_zero, List.set_cons_succ]
  refine wpAnyL_take (i := 4) (v := ?_) rfl (by kernel_rfl) (by kernel_rfl) (by kernel_rfl) (by kernel_rfl) (fun _ _ _ h => h) (Or.inl ⟨rfl, ?_⟩) hHeld ?_
  rotate_left
  · (intro w hSw; (try dsimp only at hSw); go_simp; try (with_reducible rfl))
  simp only [List.getElem_toArray, List.getElem_cons_succ, List.getElem_cons_zero, Act.put, List.setIfInBounds_toArray, List.set_cons_zero, List.set_cons_succ]
  refine wpAnyL_take (i := 5) (v := ?_) rfl (by kernel_rfl) (by kernel_rfl) (by kernel_rfl) (by kernel_rfl) (fun _ _ _ h => h) (Or.inl ⟨rfl, ?_⟩) hHeld ?_
  rotate_left
  · (intro w hSw; (try dsimp only at hSw); go_simp; try (with_reducible rfl))
  simp only [List.getElem_toArray, List.getElem_cons_succ, List.getElem_cons_zero, Act.put, List.setIfInBounds_toArray, List.set_cons_zero, List.set_cons_succ]
  refine wpAnyL_take (i := 6) (v := ?_) rfl (by kernel_rfl) (by kernel_rfl) (by kernel_rfl) (by kernel_rfl) (fun _ _ _ h => h) (Or.inl ⟨rfl, ?_⟩) hHeld ?_
  rotate_left
  · (intro w hSw; (try dsimp only at hSw); go_simp; try (with_reducible rfl))
  simp only [List.getElem_toArray, List.getElem_cons_succ, List.getElem_cons_zero, Act.put, List.setIfInBounds_toArray, List.set_cons_zero, List.set_cons_succ]
  refine wpAnyL_take (i := 7) (v := ?_) rfl (by kernel_rfl) (by kernel_rfl) (by kernel_rfl) (by kernel_rfl) (fun _ _ _ h => h) (Or.inl ⟨rfl, ?_⟩) hHeld ?_
  rotate_left
  · (intro w hSw; (try dsimp only at hSw); go_simp; try (with_reducible rfl))
  simp only [List.getElem_toArray, List.getElem_cons_succ, List.getElem_cons_zero, Act.put, List.setIfInBounds_toArray, List.set_cons_zero, List.set_cons_succ]
  refine wpAnyL_take (i := 8) (v := ?_) rfl (by kernel_rfl) (by kernel_rfl) (by kernel_rfl) (by kernel_rfl) (fun _ _ _ h => h) (Or.inl ⟨rfl, ?_⟩) hHeld ?_
  rotate_left
  · (intro w hSw; (try dsimp only at hSw); go_simp; try (with_reducible rfl))
  simp only [List.getElem_toArray, List.getElem_cons_succ, List.getElem_cons_zero, Act.put, List.setIfInBounds_toArray, List.set_cons_zero, List.set_cons_succ]
  refine wpAnyL_take (i := 9) (v := ?_) rfl (by kernel_rfl) (by kernel_rfl) (by kernel_rfl) (by kernel_rfl) (fun _ _ _ h => h) (Or.inl ⟨rfl, ?_⟩) hHeld ?_
  rotate_left
  · (intro w hSw; (try dsimp only at hSw); go_simp; try (with_reducible rfl))
  simp only [List.getElem_toArray, List.getElem_cons_succ, List.getElem_cons_zero, Act.put, List.setIfInBounds_toArray, List.set_cons_zero, List.set_cons_succ]
  refine wpAnyL_take (i := 10) (v := ?_) rfl (by kernel_rfl) (by kernel_rfl) (by kernel_rfl) (by kernel_rfl) (fun _ _ _ h => h) (Or.inl ⟨rfl, ?_⟩) hHeld ?_
  rotate_left
  · (intro w hSw; (try dsimp only at hSw); go_simp; try (with_reducible rfl))
  simp only [List.getElem_toArray, List.getElem_cons_succ, List.getElem_cons_zero, Act.put, List.setIfInBounds_toArray, List.set_cons_zero, List.set_cons_succ]
  refine wpAnyL_take (i := 11) (v := ?_) rfl (by kernel_rfl) (by kernel_rfl) (by kernel_rfl) (by kernel_rfl) (fun _ _ _ h => h) (Or.inl ⟨rfl, ?_⟩) hHeld ?_
  rotate_left
  · (intro w hSw; (try dsimp only at hSw); go_simp; try (with_reducible rfl))
  simp only [List.getElem_toArray, List.getElem_cons_succ, List.getElem_cons_zero, Act.put, List.setIfInBounds_toArray, List.set_cons_zero, List.set_cons_succ]
  refine wpAnyL_take (i := 12) (v := ?_) rfl (by kernel_rfl) (by kernel_rfl) (by kernel_rfl) (by kernel_rfl) (fun _ _ _ h => h) (Or.inl ⟨rfl, ?_⟩) hHeld ?_
  rotate_left
  · (intro w hSw; (try dsimp only at hSw); go_simp; try (with_reducible rfl))
  simp only [List.getElem_toArray, List.getElem_cons_succ, List.getElem_cons_zero, Act.put, List.setIfInBounds_toArray, List.set_cons_zero, List.set_cons_succ]
  refine wpAnyL_take (i := 13) (v := ?_) rfl (by kernel_rfl) (by kernel_rfl) (by kernel_rfl) (by kernel_rfl) (fun _ _ _ h => h) (Or.inl ⟨rfl, ?_⟩) hHeld ?_
  rotate_left
  · (intro w hSw; (try dsimp only at hSw); go_simp; try (with_reducible rfl))
  simp only [List.getElem_toArray, List.getElem_cons_succ, List.getElem_cons_zero, Act.put, List.setIfInBounds_toArray, List.set_cons_zero, List.set_cons_succ]
  refine wpAnyL_take (i := 14) (v := ?_) rfl (by kernel_rfl) (by kernel_rfl) (by kernel_rfl) (by kernel_rfl) (fun _ _ _ h => h) (Or.inl ⟨rfl, ?_⟩) hHeld ?_
  rotate_left
  · (intro w hSw; (try dsimp only at hSw); go_simp; try (with_reducible rfl))
  simp only [List.getElem_toArray, List.getElem_cons_succ, List.getElem_cons_zero, Act.put, List.setIfInBounds_toArray, List.set_cons_zero, List.set_cons_succ]
  refine wpAnyL_take (i := 15) (v := ?_) rfl (by kernel_rfl) (by kernel_rfl) (by kernel_rfl) (by kernel_rfl) (fun _ _ _ h => h) (Or.inl ⟨rfl, ?_⟩) hHeld ?_
  rotate_left
  · (intro w hSw; (try dsimp only at hSw); go_simp; try (with_reducible rfl))
  simp only [List.getElem_toArray, List.getElem_cons_succ, List.getElem_cons_zero, Act.put, List.setIfInBounds_toArray, List.set_cons_zero, List.set_cons_succ]
  refine wpAnyL_take (i := 16) (v := ?_) rfl (by kernel_rfl) (by kernel_rfl) (by kernel_rfl) (by kernel_rfl) (fun _ _ _ h => h) (Or.inl ⟨rfl, ?_⟩) hHeld ?_
  rotate_left
  · (intro w hSw; (try dsimp only at hSw); go_simp; try (with_reducible rfl))
  simp only [List.getElem_toArray, List.getElem_cons_succ, List.getElem_cons_zero, Act.put, List.setIfInBounds_toArray, List.set_cons_zero, List.set_cons_succ]
  refine wpAnyL_take (i := 18) (v := ?_) rfl (by kernel_rfl) (by kernel_rfl) (by kernel_rfl) (by kernel_rfl) (fun _ _ _ h => h) (Or.inl ⟨rfl, ?_⟩) hHeld ?_
  rotate_left
  · (intro w hSw; (try dsimp only at hSw); go_simp; try (with_reducible rfl))
  simp only [List.getElem_toArray, List.getElem_cons_succ, List.getElem_cons_zero, Act.put, List.setIfInBounds_toArray, List.set_cons_zero, List.set_cons_succ]
  refine wpAnyL_take (i := 19) (v := ?_) rfl (by kernel_rfl) (by kernel_rfl) (by kernel_rfl) (by kernel_rfl) (fun _ _ _ h => h) (Or.inl ⟨rfl, ?_⟩) hHeld ?_
  rotate_left
  · (intro w hSw; (try dsimp only at hSw); go_simp; try (with_reducible rfl))
  simp only [List.getElem_toArray, List.getElem_cons_succ, List.getElem_cons_zero, Act.put, List.setIfInBounds_toArray, List.set_cons_zero, List.set_cons_succ]
  refine wpAnyL_ready (rs := [17]) (by kernel_rfl) (by simp) ?_
  refine AllReadyL.cons rfl (fun K hK => ?_) AllReadyL.nil
  simp only [List.getElem_toArray, List.getElem_cons_succ, List.getElem_cons_zero]
  go_simp
  go_wp2_with (first | (go_at_call 27; refine D1.out.mono ?_; rintro e w3 ⟨a3, c3, rfl, hM3, hF3, hfr3⟩))
  refine hK.out _ _ (KEEP.out _ (((Fr.refl _ w).drew).trans hF3 (by simp))) (fun hHeld => ?_)
  clear hK K
  try simp only [List.getElem_toArray, List.getElem_cons_succ, List.getElem_cons_zero, Act.put, List.setIfInBounds_toArray, List.set_cons_zero, List.set_cons_succ]
  have F3 := Lib.hid (((Fr.refl [] w).drew).trans hF3 (by simp))
  have M3 := Lib.hid hM3
  have FR3 := Lib.hid hfr3
  have hs3 : w.heap.size ≤ w3.heap.size := F3.out.size
  clear hM3 hF3 hfr3
  refine wpAnyL_take (i := 20) (v := ?_) rfl (by kernel_rfl) (by kernel_rfl) (by kernel_rfl) (by kernel_rfl) (fun _ _ _ h => h) (Or.inl ⟨rfl, ?_⟩) hHeld ?_
  rotate_left
  · (intro w hSw; (try dsimp only at hSw); go_simp; try (with_reducible rfl))
  simp only [List.getElem_toArray, List.getElem_cons_succ, List.getElem_cons_zero, Act.put, List.setIfInBounds_toArray, List.set_cons_zero, List.set_cons_succ]
  refine wpAnyL_ready (rs := [21]) (by kernel_rfl) (by simp) ?_
  refine AllReadyL.cons rfl (fun K hK => ?_) AllReadyL.nil
  simp only [List.getElem_toArray, List.getElem_cons_succ, List.getElem_cons_zero]
  go_simp
  refine hK.out _ _ (KEEP.out _ ((F3.out.mono (by simp)).alloc _)) (fun hHeld => ?_)
  clear hK K
  try simp only [List.getElem_toArray, List.getElem_cons_succ, List.getElem_cons_zero, Act.put, List.setIfInBounds_toArray, List.set_cons_zero, List.set_cons_succ]
  refine wpAnyL_ready (rs := [22]) (by kernel_rfl) (by simp) ?_
  refine AllReadyL.cons rfl (fun K hK => ?_) AllReadyL.nil
  simp only [List.getElem_toArray, List.getElem_cons_succ, List.getElem_cons_zero]
  go_simp
  refine hK.out _ _ (KEEP.out _ (((F3.out.mono (by simp)).alloc _).alloc _)) (fun hHeld => ?_)
  clear hK K
  try simp only [List.getElem_toArray, List.getElem_cons_succ, List.getElem_cons_zero, Act.put, List.setIfInBounds_toArray, List.set_cons_zero, List.set_cons_succ]
  have f35 : Fr [] w3 ((w3.alloc (.cells #[.int .i64 nx, .int .i64 tp, .slice a3 f.en c3, .int .i64 par, .int .i64 ev] 130)).alloc (.cells #[.pointer (some ⟨w3.heap.size, 0, none⟩)] 127)) := ((Fr.refl [] w3).alloc _).alloc _
  have RX := Lib.hid ((Row.new w3 [.int .i64 nx, .int .i64 tp, .slice a3 f.en c3, .int .i64 par, .int .i64 ev] 130).alloc (.cells #[.pointer (some ⟨w3.heap.size, 0, none⟩)] 127))
  have hsz : (w3.alloc (.cells #[.int .i64 nx, .int .i64 tp, .slice a3 f.en c3, .int .i64 par, .int .i64 ev] 130)).heap.size = w3.heap.size + 1 := by simp
  have hnew : ∀ j u, ([.pointer (some ⟨w3.heap.size, 0, none⟩)] : List Value)[j]? = some u → ((w3.alloc (.cells #[.int .i64 nx, .int .i64 tp, .slice a3 f.en c3, .int .i64 par, .int .i64 ev] 130)).alloc (.cells #[.pointer (some ⟨w3.heap.size, 0, none⟩)] 127)).cell? ((⟨w3.heap.size + 1, 0, none⟩ : Addr).add j) = some u := by
    intro i u hi
    rw [Addr_add, Nat.zero_add]
    have hrn := Row.new (w3.alloc (.cells #[.int .i64 nx, .int .i64 tp, .slice a3 f.en c3, .int .i64 par, .int .i64 ev] 130)) [.pointer (some ⟨w3.heap.size, 0, none⟩)] 127
    rw [hsz] at hrn
    exact (hrn.cell i).trans hi
  have NW := Lib.hid hnew
  have F5 := Lib.hid (F3.out.trans f35 (by simp))
  have M5 := Lib.hid (M3.out.fr f35)
  have hrow := HH.out.row
  rw [HV.out, ← HNN.out] at hrow
  have OWN5 := Lib.hid (own_fr (own_fr hrow F3.out) f35)
  have hs5 : w.heap.size ≤ ((w3.alloc (.cells #[.int .i64 nx, .int .i64 tp, .slice a3 f.en c3, .int .i64 par, .int .i64 ev] 130)).alloc (.cells #[.pointer (some ⟨w3.heap.size, 0, none⟩)] 127)).heap.size := F5.out.size
  have hown5 : (Value.slice a n c).ownBlock = T.v.ownBlock := by rw [HV.out, HNN.out]
  clear f35 hnew hrow hsz M3 F3
  generalize (w3.alloc (.cells #[.int .i64 nx, .int .i64 tp, .slice a3 f.en c3, .int .i64 par, .int .i64 ev] 130)).alloc (.cells #[.pointer (some ⟨w3.heap.size, 0, none⟩)] 127) = w5 at *
  obtain ⟨xb, hxb⟩ : ∃ b, b = w3.heap.size := ⟨_, rfl⟩
  have HXB := Lib.hid hs3
  rw [← hxb] at RX NW HXB ⊢
  clear hxb hs3
  refine wpAnyL_ready (rs := [23]) (by kernel_rfl) (by simp) ?_
  refine AllReadyL.cons rfl (fun K hK => ?_) AllReadyL.nil
  refine step_append_rows rfl (.tmp 13) (.tmp 31) 118 127 1 8 rfl Try.underlying118 (by kernel_rfl) (by decide) (by decide) hi (.slice a n c) n _ rfl OWN5.out _ 1 1 [.pointer (some ⟨xb, 0, none⟩)] rfl rfl NW.out (by simp [Value.oneCell']) (by omega) (by omega) ?_
  intro v6 w6 hown6 hgr6 hor6
  have F6 := Lib.hid ((F5.out.mono (by simp)).trans (fr_grown hgr6) (fun y hy => .inl (by rw [← hown5]; exact hy)) : Fr T.v.ownBlock.toList w w6)
  refine hK.out _ _ (KEEP.out _ F6.out) (fun hHeld => ?_)
  clear hK K
  try simp only [List.getElem_toArray, List.getElem_cons_succ, List.getElem_cons_zero, Act.put, List.setIfInBounds_toArray, List.set_cons_zero, List.set_cons_succ]
  obtain ⟨g6, cap6, hv6, hg6, _⟩ := hown6.form (by omega)
  have HG6 := Lib.hid hgr6
  have HOR6 := Lib.hid hor6
  have OWN6 := Lib.hid hown6
  have HV6 := Lib.hid hv6
  subst hv6
  clear hgr6 hor6 hown6
  refine wpAnyL_ready (rs := [24]) (by kernel_rfl) (by simp) ?_
  refine AllReadyL.cons rfl (fun K hK => ?_) AllReadyL.nil
  simp only [List.getElem_toArray, List.getElem_cons_succ, List.getElem_cons_zero]
  go_simp
  refine hK.out _ _ (hHeld) (fun hHeld => ?_)
  clear hK K
  try simp only [List.getElem_toArray, List.getElem_cons_succ, List.getElem_cons_zero, Act.put, List.setIfInBounds_toArray, List.set_cons_zero, List.set_cons_succ]
  refine wpAnyL_take (i := 25) (v := ?_) rfl (by kernel_rfl) (by kernel_rfl) (by kernel_rfl) (by kernel_rfl) (fun _ _ _ h => h) (Or.inl ⟨rfl, ?_⟩) hHeld ?_
  rotate_left
  · (intro w hSw; (try dsimp only at hSw); go_simp; try (with_reducible rfl))
  simp only [List.getElem_toArray, List.getElem_cons_succ, List.getElem_cons_zero, Act.put, List.setIfInBounds_toArray, List.set_cons_zero, List.set_cons_succ]
  have z6 := hHeld.1
  have rd6 : Row w6 tb _ 120 := HH.out.head.fr F6.out (fun hy => by have := HO.out tb (by simpa using hy); omega)
  have y6 : w6.frozen? ⟨tb, 2, none⟩ = false := rd6.frozen 2
  have RD6 := Lib.hid rd6
  clear rd6
  refine wpAnyL_ready (rs := [26]) (by kernel_rfl) (by simp) ?_
  refine AllReadyL.end_ rfl (fun K hK => ?_)
  simp only [List.getElem_toArray, List.getElem_cons_succ, List.getElem_cons_zero]
  go_simp
  refine hK.out _ _ ?_
  clear hK K
  try simp only [List.getElem_toArray, List.getElem_cons_succ, List.getElem_cons_zero, Act.put, List.setIfInBounds_toArray, List.set_cons_zero, List.set_cons_succ]
  refine wpAnyL_done (by kernel_rfl) ?_ _
  have R7 := Lib.hid (RD6.out.setCell 2 (.slice (some ⟨g6, 0, none⟩) (n + 1) cap6))
  have y7 : (w6.setCell ⟨tb, 2, none⟩ (.slice (some ⟨g6, 0, none⟩) (n + 1) cap6)).cell? ⟨tb, 3, none⟩ = some (.int .i64 nx) := by rw [HNX.out]; exact R7.out.cell 3
  have f7 : (w6.setCell ⟨tb, 2, none⟩ (.slice (some ⟨g6, 0, none⟩) (n + 1) cap6)).frozen? ⟨tb, 3, none⟩ = false := R7.out.frozen 3
  clear z6 y6
  have HFIN := Lib.hid (show NextT tb hi T { T with v := .slice (some ⟨g6, 0, none⟩) (n + 1) cap6, L := T.L ++ [⟨xb, nx, tp, a3, c3, f.E.map startM, par, ev⟩], next := T.next + 1 } w ((w6.setCell ⟨tb, 2, none⟩ (.slice (some ⟨g6, 0, none⟩) (n + 1) cap6)).setCell ⟨tb, 3, none⟩ (.int .i64 ((nx : Int) + 1))) by
    have hl3 : (f.E.map startM).length = f.en := M5.out.1
    have := spawn_fin (x := ⟨xb, nx, tp, a3, c3, f.E.map startM, par, ev⟩) HH.out hhi F5.out (by unfold InsD.cells; simp only; rw [hl3]; exact RX.out) HXB.out (by simp only; rw [hl3]; exact M5.out) (fun g o hg => FR3.out g o hg) (by rw [← HNN.out]; exact OWN6.out) (by rw [← hown5]; exact HG6.out) (by rw [← hown5]; exact HOR6.out) (by rw [← HNN.out]; exact hfw)
    rw [← HNX.out] at this ⊢
    exact this)
  generalize w6.setCell ⟨tb, 2, none⟩ (.slice (some ⟨g6, 0, none⟩) (n + 1) cap6) = w7 at *
  clear KEEP D1 HO hHeld
  go_wp2_with fail
  go_ret
  refine ⟨by rw [← HNX.out]; first | rfl | (congr 2; omega), _, _, ?_, HFIN.out⟩
  rw [← HNX.out]
  rfl
end Go.Proofs.Ytclkahggfdnpgaa

namespace Go.Proofs.Ytclkahggfdnpgaa
section
variable {P : Program} {ops : Array Oper} {Q : Exit → Act → World → Prop} {md : Region.Mode} {S : World → Prop} {last : Nat}
/-- Whatever order is picked; S holds as long as the last is still to come. -/
def wpAnyM (P : Program) (md : Region.Mode) (ops : Array Oper) (Q : Exit → Act → World → Prop) (S : World → Prop) (last : Nat) : Nat → Array Bool → Act → World → Prop
  | 0, listed, a, w => Region.ready md ops listed = [] ∧ Q .normal a w
  | n + 1, listed, a, w =>
    (Region.ready md ops listed = [] → Q .normal a w) ∧
    ∀ i ∈ Region.ready md ops listed, wpOp P ops Q i (fun a' w' => ((listed.setIfInBounds i true).getD last true = false → S w') ∧ wpAnyM P md ops Q S last n (listed.setIfInBounds i true) a' w') a w
theorem wpAnyM.any : ∀ (n : Nat) (listed : Array Bool) (a : Act) (w : World), wpAnyM P md ops Q S last n listed a w → wpAny P md ops Q n listed a w
  | 0, _, _, _, h => h
  | n + 1, _, _, _, h => ⟨h.1, fun i hi => wpOp_mono (fun _ _ h' => wpAnyM.any n _ _ _ h'.2) (h.2 i hi)⟩
theorem wp_region_lastM {id : Nat} {a : Act} {w : World} (last : Nat) (hm : P.follows .mixedOrders = true) (hS : S w.drew)
    (h : S w.drew → wpAnyM P .any ops Q S last ops.size (Array.replicate ops.size false) a w.drew) : (Code.region id ops true).wp P Q a w :=
  wp_region_any hm (wpAnyM.any _ _ _ _ (h hS))
theorem set_last {listed : Array Bool} {i l : Nat} (h : (listed.setIfInBounds i true).getD l true = false) : i ≠ l ∧ listed.getD l true = false := by
  by_cases e : i = l
  · subst e
    by_cases h' : i < listed.size
    · simp [h'] at h
    · simp [h'] at h
  · refine ⟨e, ?_⟩
    rwa [getD_set_ne true e] at h
theorem unset_last {listed : Array Bool} {i l : Nat} (e : i ≠ l) (h : listed.getD l true = false) : (listed.setIfInBounds i true).getD l true = false := by
  rwa [getD_set_ne true e]
theorem waits_ready {i : Nat} (listed : Array Bool) (j : Nat) (hj : j ∈ Region.ready md ops listed) (hr : i ∈ Region.ready md ops listed) : ∀ oj, ops[j]? = some oj → ∀ e ∈ oj.after, Region.binds md e = true → e.on ≠ i := by
  intro oj hoj e he hb heq
  obtain ⟨_, oj', hoj', hall⟩ := mem_ready.1 hj
  rw [hoj] at hoj'
  cases hoj'
  have h1 := hall e he hb
  have h0 := (mem_ready.1 hr).1
  rw [heq] at h1
  rcases Nat.lt_or_ge i listed.size with h' | h'
  · simp [h'] at h0 h1
    rw [h0] at h1
    cases h1
  · simp [Array.getElem?_eq_none h'] at h1
theorem wpAnyM_first {i : Nat} {oi : Oper} {v : Value} (hi : ops[i]? = some oi) (hsel : ∀ (j : Nat) (o : Oper) cs b, ops[j]? = some o → o.op ≠ .select cs b)
    (hQ : ∀ c a w, Q (.panic c) (a.put oi.dst v) w → Q (.panic c) a w) (hil : i ≠ last) (hwl : Region.waitsFor md ops last i = true) :
    ∀ (n : Nat) (listed : Array Bool) (a : Act) (w : World),
      (∀ j oj, ops[j]? = some oj → j ≠ i → listed.getD j true = false → (∀ e ∈ oj.after, Region.binds md e = true → e.on ≠ i) → oi.apart ops oj = true) →
      i ∈ Region.ready md ops listed → listed.getD last true = false → YieldsIf P ops S oi v a → S w →
      wpAnyM P md ops Q S last n (listed.setIfInBounds i true) (a.put oi.dst v) w → wpAnyM P md ops Q S last (n + 1) listed a w := by
  have notlast : ∀ (listed : Array Bool) (j : Nat), j ∈ Region.ready md ops listed → i ∈ Region.ready md ops listed → j ≠ last := by
    intro listed j hj hr hjl
    subst hjl
    obtain ⟨oj, hoj, e, he, hb, heq⟩ := Region.waitsFor_spec hwl
    exact waits_ready listed j hj hr oj hoj e he hb heq
  intro n
  induction n with
  | zero =>
    intro listed a w _ hr _ hy hS H
    refine ⟨fun h => (by rw [h] at hr; cases hr), fun j hj => ?_⟩
    by_cases hji : j = i
    · subst hji
      exact hy.wpOp hi hS ⟨fun _ => hS, H⟩
    · have := ready_mono hj hji
      rw [H.1] at this
      cases this
  | succ n ih =>
    intro listed a w hfree hr hun hy hS H
    refine ⟨fun h => (by rw [h] at hr; cases hr), fun j hj => ?_⟩
    by_cases hji : j = i
    · subst hji
      exact hy.wpOp hi hS ⟨fun _ => hS, H⟩
    · have hjl := notlast listed j hj hr
      have h1 := H.2 j (ready_mono hj hji)
      obtain ⟨hjun, oj, hoj, _⟩ := mem_ready.1 hj
      have h2 := wpOp_putIf hoj (hfree j oj hoj hji hjun (waits_ready listed j hj hr oj hoj)) (fun cs b => hsel i oi cs b hi) (fun cs b => hsel j oj cs b hoj) hQ hy h1
      have hul := unset_last hjl (unset_last hil hun)
      refine wpOp_mono (fun a' w' h3 => ⟨fun _ => h3.2.1 hul, ih (listed.setIfInBounds j true) a' w' ?_ (ready_mono hr (Ne.symm hji)) (unset_last hjl hun) h3.1 (h3.2.1 hul) ?_⟩) h2
      · intro k ok hk hki hun hno
        refine hfree k ok hk hki ?_ hno
        by_cases hjk : j = k
        · subst hjk; exact hjun
        · rw [getD_set_ne true hjk] at hun; exact hun
      · rw [Array.setIfInBounds_comm _ _ hji]
        exact h3.2.2
/-- An operation that tells the same in every world is taken first, whatever waits for it. -/
theorem wpAnyM_free {i : Nat} {oi : Oper} {v : Value} (hi : ops[i]? = some oi) (hsel : ∀ (j : Nat) (o : Oper) cs b, ops[j]? = some o → o.op ≠ .select cs b)
    (hQ : ∀ c a w, Q (.panic c) (a.put oi.dst v) w → Q (.panic c) a w) (hil : i ≠ last) :
    ∀ (n : Nat) (listed : Array Bool) (a : Act) (w : World),
      (∀ j oj, ops[j]? = some oj → j ≠ i → listed.getD j true = false → (∀ e ∈ oj.after, Region.binds md e = true → e.on ≠ i) → oi.apart ops oj = true) →
      i ∈ Region.ready md ops listed → YieldsIf P ops (fun _ => True) oi v a → (listed.getD last true = false → S w) →
      wpAnyM P md ops Q S last n (listed.setIfInBounds i true) (a.put oi.dst v) w → wpAnyM P md ops Q S last (n + 1) listed a w := by
  intro n
  induction n with
  | zero =>
    intro listed a w _ hr hy hS H
    refine ⟨fun h => (by rw [h] at hr; cases hr), fun j hj => ?_⟩
    by_cases hji : j = i
    · subst hji
      exact hy.wpOp hi trivial ⟨fun hl => hS (set_last hl).2, H⟩
    · have := ready_mono hj hji
      rw [H.1] at this
      cases this
  | succ n ih =>
    intro listed a w hfree hr hy hS H
    refine ⟨fun h => (by rw [h] at hr; cases hr), fun j hj => ?_⟩
    by_cases hji : j = i
    · subst hji
      exact hy.wpOp hi trivial ⟨fun hl => hS (set_last hl).2, H⟩
    · have h1 := H.2 j (ready_mono hj hji)
      obtain ⟨hjun, oj, hoj, _⟩ := mem_ready.1 hj
      have h2 := wpOp_putIf hoj (hfree j oj hoj hji hjun (waits_ready listed j hj hr oj hoj)) (fun cs b => hsel i oi cs b hi) (fun cs b => hsel j oj cs b hoj) hQ hy h1
      refine wpOp_mono (fun a' w' h3 => ?_) h2
      have hS' : (listed.setIfInBounds j true).getD last true = false → S w' := fun hl => h3.2.1 (by
        rw [Array.setIfInBounds_comm _ _ (Ne.symm hji)]
        exact unset_last hil hl)
      refine ⟨hS', ih (listed.setIfInBounds j true) a' w' ?_ (ready_mono hr (Ne.symm hji)) h3.1 hS' ?_⟩
      · intro k ok hk hki hun hno
        refine hfree k ok hk hki ?_ hno
        by_cases hjk : j = k
        · subst hjk; exact hjun
        · rw [getD_set_ne true hjk] at hun; exact hun
      · rw [Array.setIfInBounds_comm _ _ hji]
        exact h3.2.2
theorem wpAnyM_take {i : Nat} {oi : Oper} {v : Value} {n : Nat} {listed : Array Bool} {a : Act} {w : World} (hi : ops[i]? = some oi)
    (hs : Region.noSelect ops = true) (hf : Region.free md ops listed i = true) (hr : (Region.ready md ops listed).contains i = true) (hl : (decide (i ≠ last) && Region.waitsFor md ops last i && !listed.getD last true) = true)
    (hQ : ∀ c a w, Q (.panic c) (a.put oi.dst v) w → Q (.panic c) a w) (hy : YieldsIf P ops S oi v a) (hS : S w)
    (h : wpAnyM P md ops Q S last n (listed.setIfInBounds i true) (a.put oi.dst v) w) : wpAnyM P md ops Q S last (n + 1) listed a w := by
  simp only [Bool.and_eq_true, decide_eq_true_iff, Bool.not_eq_true'] at hl
  exact wpAnyM_first hi (Region.noSelect_spec hs) hQ hl.1.1 hl.1.2 n listed a w (Region.free_spec hi hf) (by simpa using hr) hl.2 hy hS h
theorem wpAnyM_pure {i : Nat} {oi : Oper} {v : Value} {n : Nat} {listed : Array Bool} {a : Act} {w : World} (hi : ops[i]? = some oi)
    (hs : Region.noSelect ops = true) (hf : Region.free md ops listed i = true) (hr : (Region.ready md ops listed).contains i = true) (hl : (decide (i ≠ last)) = true)
    (hQ : ∀ c a w, Q (.panic c) (a.put oi.dst v) w → Q (.panic c) a w) (hy : YieldsIf P ops (fun _ => True) oi v a) (hS : S w)
    (h : wpAnyM P md ops Q S last n (listed.setIfInBounds i true) (a.put oi.dst v) w) : wpAnyM P md ops Q S last (n + 1) listed a w :=
  wpAnyM_free hi (Region.noSelect_spec hs) hQ (by simpa using hl) n listed a w (Region.free_spec hi hf) (by simpa using hr) hy (fun _ => hS) h
def AllReadyM (P : Program) (md : Region.Mode) (ops : Array Oper) (Q : Exit → Act → World → Prop) (S : World → Prop) (last n : Nat) (listed : Array Bool) (a : Act) (w : World) (rs : List Nat) : Prop :=
  ∀ i ∈ rs, wpOp P ops Q i (fun a' w' => ((listed.setIfInBounds i true).getD last true = false → S w') ∧ wpAnyM P md ops Q S last n (listed.setIfInBounds i true) a' w') a w
theorem AllReadyM.nil {n : Nat} {listed : Array Bool} {a : Act} {w : World} : AllReadyM P md ops Q S last n listed a w [] := fun _ h => by cases h
theorem AllReadyM.cons {n : Nat} {listed : Array Bool} {a : Act} {w : World} {i : Nat} {o : Oper} {rs : List Nat} (ho : ops[i]? = some o)
    (h : ∀ K' : Act → World → Prop, Shut (∀ a w, S w → (S w → wpAnyM P md ops Q S last n (listed.setIfInBounds i true) a w) → K' a w) → if Region.wanted o (yielded ops a.tmps) = true then Oper.wp P o a w K' Q else K' (a.put o.dst undef) w)
    (hs : AllReadyM P md ops Q S last n listed a w rs) : AllReadyM P md ops Q S last n listed a w (i :: rs) := fun j hj => by
  rcases List.mem_cons.1 hj with rfl | hj
  · exact wpOp_step ho (fun K' hK => h K' (fun a w hS hW => hK a w ⟨fun _ => hS, hW hS⟩))
  · exact hs j hj
theorem AllReadyM.end_ {n : Nat} {listed : Array Bool} {a : Act} {w : World} {o : Oper} (ho : ops[last]? = some o)
    (h : ∀ K' : Act → World → Prop, Shut (∀ a w, wpAnyM P md ops Q S last n (listed.setIfInBounds last true) a w → K' a w) → if Region.wanted o (yielded ops a.tmps) = true then Oper.wp P o a w K' Q else K' (a.put o.dst undef) w) : AllReadyM P md ops Q S last n listed a w [last] := fun j hj => by
  obtain rfl := List.mem_singleton.1 hj
  exact wpOp_step ho (fun K' hK => h K' (fun a w hW => hK a w ⟨fun hl => absurd rfl (set_last hl).1, hW⟩))
theorem wpAnyM_ready {rs : List Nat} {n : Nat} {listed : Array Bool} {a : Act} {w : World} (hr : Region.ready md ops listed = rs) (hne : rs ≠ [])
    (h : AllReadyM P md ops Q S last n listed a w rs) : wpAnyM P md ops Q S last (n + 1) listed a w :=
  ⟨fun h0 => absurd (hr ▸ h0) hne, hr ▸ h⟩
theorem wpAnyM_done {listed : Array Bool} {a : Act} {w : World} (hr : Region.ready md ops listed = []) (h : Q .normal a w) : ∀ n, wpAnyM P md ops Q S last n listed a w
  | 0 => ⟨hr, h⟩
  | _ + 1 => ⟨fun _ => h, by rw [hr]; simp⟩
end
end Go.Proofs.Ytclkahggfdnpgaa
