/- The items in order: what the sort's compare function answers. -/
import Derived.Test.YtpjmmhpkiepbmaaHpC
import Derived.Test.YtpjmmhpkiepbmaaHpO
import Derived.Shelf.SlSortCmp.WholeK
set_option linter.unusedVariables false
set_option linter.unusedSimpArgs false
namespace Go.Proofs.Ytpjmmhpkiepbmaa
open Go.RowKit Go.Sort
theorem Fr.grow {S : List Nat} {a w : World} (h : Fr S a w) (os : Array Obj) : Fr S a (Go.Sort.grow w os) := by
  refine ⟨h.os, h.tape, h.output, ?_, fun k hk hS => ?_⟩
  · rw [size_grow]; have := h.size; omega
  · rw [heap_grow_old w os (by have := h.size; omega)]
    exact h.block k hk hS
theorem Fr.mapBlock {S : List Nat} {a w : World} (h : Fr S a w) {blk : Nat} (hb : blk ∈ S) (f : Array Value → Array Value) : Fr S a (Go.Sort.mapBlock w blk f) := by
  refine ⟨h.os, h.tape, h.output, ?_, fun k hk hS => ?_⟩
  · show a.heap.size ≤ (w.heap.modify blk _).size
    rw [Array.size_modify]
    exact h.size
  · have hkb : blk ≠ k := fun he => hS (he ▸ hb)
    show (w.heap.modify blk _)[k]? = _
    rw [Array.getElem?_modify, if_neg hkb]
    exact h.block k hk hS
theorem fr_sortWorld {α : Type} [Inhabited α] (enc : α → List Value) (k : Nat) (w : World) (blk off m : Nat) (d : Array α) (os : Array Obj) : Fr [blk] w (sortWorldK enc k w blk off m d os) := by
  unfold sortWorldK putRowK putRow
  exact Fr.grow (Fr.mapBlock (Fr.drewN (Fr.refl [blk] w) m) (by simp) _) os
/-- An item that may wait. -/
abbrev GI := { x : ItD // x.ok ∧ inI x.id }
instance : Inhabited GI := ⟨⟨default, ⟨by unfold ItD.ok; decide, by unfold inI; decide⟩⟩⟩
def cmpI (s : Int) (x y : GI) : Int := if aheadB s x.1 y.1 = true then -1 else 1
def encI (x : GI) : List Value := x.1.cells
theorem ltOf_cmpI (s : Int) (x y : GI) : ltOf (cmpI s) x y = aheadB s x.1 y.1 := by
  unfold ltOf cmpI
  cases aheadB s x.1 y.1 <;> simp
theorem swoI (s : Int) : SWO (ltOf (cmpI s)) where
  irrefl x := by rw [ltOf_cmpI]; exact ahead_irr s _
  trans x y z h1 h2 := by rw [ltOf_cmpI] at *; exact ahead_trans h1 h2
  ntrans x y z h1 h2 := by rw [ltOf_cmpI] at *; exact na_trans h1 h2
theorem cmp30 (b bx : Nat) (s : Int) (x y : ItD) (w : World) (hb : w.cell? ⟨bx, 0, none⟩ = some (.pointer (some ⟨b, 0, none⟩))) (hs : w.cell? ⟨b, 0, none⟩ = some (.int .i64 s)) (hok : stepOk s) (hx : x.ok) (hy : y.ok) :
    Calls Try.prog 30 #[x.val, y.val, .pointer (some ⟨bx, 0, none⟩)] w fun e w' => e = .returned (.int .i64 (if aheadB s x y = true then -1 else 1)) ∧ ∃ q os', w' = grow (w.drewN q) os' := by
  have hf := ((Fr.refl [] w).alloc (.cells #[.int .i64 x.id, .int .i64 x.base, .int .i64 x.since] 32)).alloc (.cells #[.int .i64 y.id, .int .i64 y.base, .int .i64 y.since] 32)
  have C := ahead_eq b s x y _ (cell_fr hs hf) hok hx hy
  have c1 := cell_fr hb hf
  simp only [ItD.val] at C ⊢
  have HC := Lib.hid C
  clear C hf hs hx hy hok
  by_cases ha : aheadB s x y = true
  · have HA := Lib.hid ha
    rw [if_pos ha]
    clear ha
    go_enter Try.func30, Try.ntmps30
    go_wp2_with fail
    refine HC.out.mono ?_
    rintro e w1 ⟨rfl, rfl⟩
    rw [HA.out]
    go_wp2_with fail
    go_ret
    exact ⟨rfl, 1, #[.cells #[.int .i64 x.id, .int .i64 x.base, .int .i64 x.since] 32, .cells #[.int .i64 y.id, .int .i64 y.base, .int .i64 y.since] 32, .cells #[.int .i64 x.id, .int .i64 x.base, .int .i64 x.since] 32, .cells #[.int .i64 y.id, .int .i64 y.base, .int .i64 y.since] 32], by simp only [alloc_eq_grow, grow_grow]; rfl⟩
  · have HA := Lib.hid (Bool.eq_false_iff.2 ha)
    rw [if_neg ha]
    clear ha
    go_enter Try.func30, Try.ntmps30
    go_wp2_with fail
    refine HC.out.mono ?_
    rintro e w1 ⟨rfl, rfl⟩
    rw [HA.out]
    go_wp2_with fail
    go_ret
    exact ⟨rfl, 1, #[.cells #[.int .i64 x.id, .int .i64 x.base, .int .i64 x.since] 32, .cells #[.int .i64 y.id, .int .i64 y.base, .int .i64 y.since] 32, .cells #[.int .i64 x.id, .int .i64 x.base, .int .i64 x.since] 32, .cells #[.int .i64 y.id, .int .i64 y.base, .int .i64 y.since] 32], by simp only [alloc_eq_grow, grow_grow]; rfl⟩
/-- Items that lie in cells. -/
structure ItemsAt (w : World) (a : Option Addr) (n : Nat) (L : List ItD) : Prop where
  len : L.length = n
  at_ : 0 < n → ∃ g o, a = some ⟨g, o, none⟩ ∧ ∀ j u, (icells L)[j]? = some u → w.cell? ⟨g, o + j, none⟩ = some u
theorem ItemsAt.fr {w w' : World} {a : Option Addr} {n : Nat} {L : List ItD} (h : ItemsAt w a n L) {S : List Nat} (f : Fr S w w') (hS : ∀ g o, a = some ⟨g, o, none⟩ → g ∉ S) : ItemsAt w' a n L :=
  ⟨h.len, fun h0 => by
    obtain ⟨g, o, rfl, hc⟩ := h.at_ h0
    refine ⟨g, o, rfl, fun j u hu => ?_⟩
    have h1 := hc j u hu
    rw [World.cell?_of_block (f.block g (World.block_lt_of_cell? w _ h1) (hS g o rfl))]
    exact h1⟩
theorem ItemsAt.cell {w : World} {g o n : Nat} {L : List ItD} (h : ItemsAt w (some ⟨g, o, none⟩) n L) {i r : Nat} (hi : i < n) (hr : r < 3) {u : Value} (hu : (L.getD i default).cells[r]? = some u) : w.cell? ⟨g, o + (i * 3 + r), none⟩ = some u := by
  obtain ⟨g', o', he, hc⟩ := h.at_ (by omega)
  cases he
  exact hc _ _ (by rw [icells_at L i r (by rw [h.len]; exact hi) hr]; exact hu)
end Go.Proofs.Ytpjmmhpkiepbmaa
