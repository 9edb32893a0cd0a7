/- An item is put, the good way. -/
import Derived.Test.YtpjmmhpkiepbmaaHp6
set_option linter.unusedVariables false
set_option linter.unusedSimpArgs false
namespace Go.Proofs.Ytpjmmhpkiepbmaa
open Go.RowKit
theorem infoI : (Try.prog.info? 32).map (fun i => (i.zero, i.size, i.bytes)) = some (some (.agg #[.int .i64 0, .int .i64 0, .int .i64 0]), 3, 24) := by kernel_rfl
theorem info_parts {P : Program} {t s b : Nat} {z : Value} (h : (P.info? t).map (fun i => (i.zero, i.size, i.bytes)) = some (some z, s, b)) : ∃ i, P.info? t = some i ∧ i.zero = some z ∧ i.size = s ∧ i.bytes = b := by
  cases hi : P.info? t with
  | none => rw [hi] at h; cases h
  | some i =>
    rw [hi] at h
    simp at h
    exact ⟨i, rfl, h.1, h.2.1, h.2.2⟩
theorem own_keep {w w' : World} {base : Nat} {e : TypeId} {size n : Nat} {v : Value} {xs : List Value} {S : List Nat} (h : w.ownsRow base e size v n xs) (f : Fr S w w') (hS : ∀ y, v.ownBlock = some y → y ∉ S) : w'.ownsRow base e size v n xs := by
  refine ⟨h.1, ?_⟩
  rcases h.2 with ⟨rfl, rfl⟩ | ⟨g, cap, cur, rfl, hb, hg, r⟩
  · exact .inl ⟨rfl, rfl⟩
  · exact .inr ⟨g, cap, cur, rfl, hb, (f.block g ((Array.getElem?_eq_some_iff.1 hg).1) (hS g rfl)).trans hg, r⟩
/-- The heap behind a change: the same blocks, its row its own or a new one. -/
def HpNext (E : ElemOf Try.prog 3 Int) (b m base n : Nat) (step : Int) (L : List ItD) (v : Value) (w w' : World) : Prop :=
  ∃ n' v', n' ≤ n ∧ HpAt E w' b m base n' step L v' ∧ Fr (b :: m :: v.ownBlock.toList) w w' ∧ (v'.ownBlock = v.ownBlock ∨ ∃ k, v'.ownBlock = some k ∧ w.heap.size ≤ k)
set_option maxRecDepth 100000 in
set_option maxHeartbeats 8000000 in
theorem put_ok (E : ElemOf Try.prog 3 Int) (hE : ∀ v, E.val v = .int .i64 v) (hEg : ∀ v, inI v → E.good v) (b m base n : Nat) (step : Int) (L : List ItD) (v : Value) (x : ItD) (w : World) (h : HpAt E w b m base n step L v) (hg : Good step L) (hx : x.ok) (hid : inI x.id) (ht : posM L x.id = none) (hl : L.length < 1000) (hbase : base ≤ w.heap.size) (hn : n ≤ 8000000000) :
    Calls Try.prog 10 #[.pointer (some ⟨b, 0, none⟩), x.val] w fun e w' => e = .returned (.int .i64 0) ∧ HpNext E b m base (n + 2002) step (upL step (L ++ [x]) L.length) v w w' := by
  obtain ⟨i0, hi, hz0, hz1, hz2⟩ := info_parts infoI
  have HI := Lib.hid hi
  have HZ0 := Lib.hid hz0
  have HZ1 := Lib.hid hz1
  have HZ2 := Lib.hid hz2
  clear hi hz0 hz1 hz2
  have hf := (Fr.refl [] w).alloc (.cells #[.int .i64 x.id, .int .i64 x.base, .int .i64 x.since] 32)
  have rx := Row.new w [.int .i64 x.id, .int .i64 x.base, .int .i64 x.since] 32
  have h1 := h.fr hf
  have C1 := has_any E b m base n step L v _ h1 x.id hid
  rw [show (posM L x.id).isSome = false by rw [ht]; rfl] at C1
  obtain ⟨a, c, rfl⟩ := v_slice h
  have d1 : decide (x.base < 0) = false := decide_eq_false (by have := hx.1; omega)
  have d2 : decide (x.base > 9) = false := decide_eq_false (by have := hx.2.1; omega)
  have d3 : decide (x.since < 0) = false := decide_eq_false (by have := hx.2.2.1; omega)
  have d4 : decide (x.since > 1099511627776) = false := decide_eq_false (by have := hx.2.2.2; omega)
  have de : ((L.length : Int) == 1000) = false := by rw [beq_eq_false_iff_ne]; omega
  have HH := Lib.hid h1
  have HB := Lib.hid h.row
  have HX := Lib.hid rx
  have HW := Lib.hid hf
  have GS := Lib.hid (hg.snoc hx hid ht hl)
  have HT := Lib.hid ht
  have hne := h.ne
  have hbl := h.bl
  have hml := h.ml
  have HID := Lib.hid hid
  clear hf rx h h1 hg hx ht hid
  simp only [ItD.val]
  go_enter Try.func10, Try.ntmps10
  go_wp2_with fail
  refine C1.mono ?_
  rintro e w1 ⟨rfl, hw1⟩
  rw [hw1] at HH HX HW
  clear hw1 C1
  have c1 : w1.cell? ⟨b, 1, none⟩ = some (.slice a L.length c) := HH.out.head.cell 1
  have c2 : w1.cell? ⟨b, 2, none⟩ = some (.map (some m)) := HH.out.head.cell 2
  have x0 : w1.cell? ⟨w.heap.size, 0, none⟩ = some (.int .i64 x.id) := HX.out.cell 0
  have hws : w.heap.size < w1.heap.size := HX.out.lt
  obtain ⟨w2, hrun, hm2, hf2⟩ := (HH.out.map.fr ((Fr.refl [] w1).drew) (by simp)).store (t := 62) Try.underlying3 Try.underlying62 (by unfold maxLen; omega) HID.out (v := (L.length : Int)) (hEg _ (by unfold inI; omega))
  rw [hE, posM_snoc HT.out] at *
  have f12 : Fr [m] w1 w2 := (((Fr.refl [] w1).drew).mono (T := [m]) (by simp)).trans hf2 (fun y hy => .inl hy)
  have KP := Lib.hid (⟨(HH.out.head.fr f12 (by simp; exact hne)).cell 1, (HH.out.head.fr f12 (by simp; exact hne)).cell 2, (HX.out.fr f12 (by simp; omega)).cell 0⟩ : w2.cell? ⟨b, 1, none⟩ = some (.slice a L.length c) ∧ w2.cell? ⟨b, 2, none⟩ = some (.map (some m)) ∧ w2.cell? ⟨w.heap.size, 0, none⟩ = some (.int .i64 x.id))
  have MP2 := Lib.hid hm2
  have F12 := Lib.hid f12
  clear hm2 f12 hf2
  go_wp2_with fail
  go_region_held_law (fun w' => w'.cell? ⟨b, 1, none⟩ = some (.slice a L.length c) ∧ w'.cell? ⟨b, 2, none⟩ = some (.map (some m)) ∧ w'.cell? ⟨w.heap.size, 0, none⟩ = some (.int .i64 x.id)) (first | exact KP.out | go_keep) (fail)
  clear hrun c1 c2 x0
  have hmb : ∀ y, (Value.slice a L.length c).ownBlock = some y → base ≤ y ∧ y < w.heap.size := fun y hy => HB.out.lt y hy
  have O2 := Lib.hid (own_keep HH.out.row F12.out (fun y hy => by have := hmb y hy; simp; omega))
  have R2 := Lib.hid (HH.out.head.fr F12.out (by simp; exact hne))
  have X2 := Lib.hid (HX.out.fr F12.out (by simp; omega))
  have hw2 : w1.heap.size ≤ w2.heap.size := F12.out.size
  have c1 : w2.cell? ⟨b, 1, none⟩ = some (.slice a L.length c) := R2.out.cell 1
  have x0 : w2.cell? ⟨w.heap.size, 0, none⟩ = some (.int .i64 x.id) := X2.out.cell 0
  have x1 : w2.cell? ⟨w.heap.size, 1, none⟩ = some (.int .i64 x.base) := X2.out.cell 1
  have x2 : w2.cell? ⟨w.heap.size, 2, none⟩ = some (.int .i64 x.since) := X2.out.cell 2
  have c1' : ∀ o, (w2.alloc o).cell? ⟨b, 1, none⟩ = some (.slice a L.length c) := fun o => by rw [World.cell?_alloc_lt w2 o _ (by show b < w2.heap.size; omega)]; exact c1
  have hO4 : ((w2.alloc (.cells #[.int .i64 x.id, .int .i64 x.base, .int .i64 x.since] 32)).drew).ownsRow base 32 3 (.slice a L.length c) L.length (icells L) := own_keep O2.out ((((Fr.refl [] w2).alloc _).drew)) (by simp)
  have hnew : ∀ i u, ([.int .i64 x.id, .int .i64 x.base, .int .i64 x.since] : List Value)[i]? = some u → ((w2.alloc (.cells #[.int .i64 x.id, .int .i64 x.base, .int .i64 x.since] 32)).drew).cell? ((⟨w2.heap.size, 0, none⟩ : Addr).add i) = some u := by
    intro i u hi
    rw [Addr_add, Nat.zero_add]
    exact ((Row.new w2 [.int .i64 x.id, .int .i64 x.base, .int .i64 x.since] 32).cell i).trans hi
  have OA := Lib.hid hO4
  have NW := Lib.hid hnew
  have B1 := Lib.hid (show L.length + 1 ≤ maxLen by unfold maxLen; omega)
  have B2 := Lib.hid (show (L.length + 1) * 24 ≤ 140737488355328 by omega)
  have B3 := Lib.hid (show base ≤ ((w2.alloc (.cells #[.int .i64 x.id, .int .i64 x.base, .int .i64 x.since] 32)).drew).heap.size by simp; omega)
  have B4 := Lib.hid (show ((w2.alloc (.cells #[.int .i64 x.id, .int .i64 x.base, .int .i64 x.since] 32)).drew).heap.size = w2.heap.size + 1 by simp)
  have ONE := Lib.hid (show ∀ u ∈ ([.int .i64 x.id, .int .i64 x.base, .int .i64 x.since] : List Value), u.oneCell' = true by simp [Value.oneCell'])
  have KF : ∀ w5, ((w2.alloc (.cells #[.int .i64 x.id, .int .i64 x.base, .int .i64 x.since] 32)).drew).grownBy w5 (Value.ownBlock (.slice a L.length c)) → Row w5 b [.int .i64 step, .slice a L.length c, .map (some m)] 64 ∧ Fr ((Value.ownBlock (.slice a L.length c)).toList) w2 w5 := by
    intro w5 hg
    have hf4 : Fr ((Value.ownBlock (.slice a L.length c)).toList) w2 w5 := ((((Fr.refl [] w2).alloc _).drew).mono (by simp)).trans (Fr.of_grown hg _ (fun k hk => .inl (by simp [hk]))) (fun y hy => .inl hy)
    exact ⟨R2.out.fr hf4 (fun hy => by simp only [Option.mem_toList] at hy; have := hmb _ hy; omega), hf4⟩
  have KF := Lib.hid KF
  clear hO4 hnew KP
  go_wp2_with fail
  go_region_law ((refine step_append_lies _ rfl _ _ 51 rfl base 32 i0 (.agg #[.int .i64 0, .int .i64 0, .int .i64 0]) 3 24 Try.underlying51 HI.out HZ0.out HZ1.out HZ2.out rfl (by decide) _ _ _ rfl OA.out ⟨w2.heap.size, 0, none⟩ 1 1 [.int .i64 x.id, .int .i64 x.base, .int .i64 x.since] rfl rfl NW.out ONE.out (by decide) B1.out B2.out B3.out _ B4.out ?_; intro g5 cap5 w5 hown5 hgrow5 hor5 hlt5; have z5 := (KF.out w5 hgrow5).1.cell 1; have y5 := (KF.out w5 hgrow5).1.frozen 1; simp only [List.getElem?_cons_succ, List.getElem?_cons_zero] at z5))
  all_goals
    have R6 := Lib.hid ((KF.out w5 hgrow5).1.setCell 1 (.slice (some ⟨g5, 0, none⟩) (L.length + 1) cap5))
    have F25 := Lib.hid (KF.out w5 hgrow5).2
    have F6 := Lib.hid (((Fr.refl [b] w5).setCell (p := ⟨b, 1, none⟩) (.inl (by simp)) (.slice (some ⟨g5, 0, none⟩) (L.length + 1) cap5)))
    have hgb : base ≤ g5 := by
      rcases hor5 with h5 | h5
      · exact (hmb g5 h5).1
      · omega
    have O6 := Lib.hid (own_keep hown5 F6.out (fun y hy => by simp [Value.ownBlock] at hy; simp; omega))
    have hor6 : (Value.slice a L.length c).ownBlock = some g5 ∨ g5 = w2.heap.size + 1 := hor5
    have HOR := Lib.hid hor6
    clear hor6
    clear hown5 hgrow5 hor5 hlt5 z5 y5 c1 c1' x0 x1 x2
    generalize hW6 : w5.setCell ⟨b, 1, none⟩ (.slice (some ⟨g5, 0, none⟩) (L.length + 1) cap5) = w6 at R6 F6 O6 ⊢
    clear hW6
    have c1 : w6.cell? ⟨b, 1, none⟩ = some (.slice (some ⟨g5, 0, none⟩) (L.length + 1) cap5) := R6.out.cell 1
    have hll : (L ++ [x]).length = L.length + 1 := by simp
    have hmn : m ∉ (Value.ownBlock (.slice a L.length c)).toList := fun hy => by simp only [Option.mem_toList] at hy; have := hmb _ hy; omega
    have h6 : HpAt E w6 b m base (n + 1) step (L ++ [x]) (.slice (some ⟨g5, 0, none⟩) (L.length + 1) cap5) := by
      refine ⟨R6.out, ?_, (MP2.out.fr F25.out hmn).fr F6.out (by simp; exact fun h => hne h.symm), hbl, hml, hne⟩
      rw [hll, icells_snoc]
      exact O6.out
    have C9 := up_any E hE hEg b m base (n + 1) step (L ++ [x]) _ L.length w6 h6 (by omega) GS.out (by omega)
    have D9 := Lib.hid C9
    clear h6 C9
    go_wp2_with fail
    refine D9.out.mono ?_
    rintro e w9 ⟨rfl, ⟨n', hn', h9⟩, hF9⟩
    go_wp2_with fail
    go_ret
    have hsz : w.heap.size ≤ w1.heap.size := by omega
    have f1 : Fr (b :: m :: (Value.ownBlock (.slice a L.length c)).toList) w w2 := (HW.out.mono (by simp)).trans F12.out (fun y hy => by simp at hy; exact .inl (by simp [hy]))
    have f2 := f1.trans F25.out (fun y hy => .inl (by simp only [List.mem_cons]; exact .inr (.inr hy)))
    have f3 := f2.trans F6.out (fun y hy => by simp at hy; exact .inl (by simp [hy]))
    refine ⟨rfl, n', _, by omega, h9, f3.trans hF9 (fun y hy => ?_), ?_⟩
    · simp only [List.mem_cons, Option.mem_toList, Value.ownBlock] at hy
      rcases hy with rfl | hy
      · exact .inl (by simp)
      · have hg : g5 = y := by simpa using hy
        rcases HOR.out with h5 | h5
        · exact .inl (by rw [h5, ← hg]; simp)
        · exact .inr (by omega)
    · rcases HOR.out with h5 | h5
      · exact .inl (by rw [h5]; rfl)
      · exact .inr ⟨g5, rfl, by omega⟩
end Go.Proofs.Ytpjmmhpkiepbmaa
