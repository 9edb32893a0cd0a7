/- The tree: the contracts without its places. -/
import Derived.Test.YtclkahggfdnpgaaTr19
import Derived.Test.YtclkahggfdnpgaaTrO
set_option linter.unusedVariables false
set_option linter.unusedSimpArgs false
namespace Go.Proofs.Ytclkahggfdnpgaa
open Go.RowKit
/-- At tb lies a tree that reads P; its blocks are S. -/
structure TreeIs (w : World) (tb hi : Nat) (S : List Nat) (P : PT) : Prop where
  ex : ∃ T, TreeAt w tb hi T ∧ T.pl = P ∧ T.blocks tb = S
  size : hi ≤ w.heap.size
theorem TreeIs.lt {w : World} {tb hi : Nat} {S : List Nat} {P : PT} (h : TreeIs w tb hi S P) : ∀ y ∈ S, y < w.heap.size := by
  obtain ⟨⟨T, hT, _, rfl⟩, _⟩ := h
  intro y hy
  rcases List.mem_cons.1 hy with rfl | hy
  · exact hT.head.lt
  · rcases List.mem_append.1 hy with hy | hy
    · exact (hT.row.lt y (by simpa using hy)).2
    · obtain ⟨x, hx, rfl⟩ := List.mem_map.1 hy
      exact (hT.ins x hx).lt
theorem TreeIs.fr {w w' : World} {tb hi : Nat} {S : List Nat} {P : PT} (h : TreeIs w tb hi S P) (f : Fr [] w w') : TreeIs w' tb hi S P := by
  obtain ⟨⟨T, hT, h1, h2⟩, h3⟩ := h
  exact ⟨⟨T, hT.fr f, h1, h2⟩, Nat.le_trans h3 f.size⟩
/-- A tree behind an act. -/
def NextI (tb hi : Nat) (S : List Nat) (w : World) (P : PT) (w' : World) : Prop := ∃ S', TreeIs w' tb hi S' P ∧ Fr S w w' ∧ ∀ y ∈ S', y ∈ S ∨ w.heap.size ≤ y
theorem NextT.is {tb hi : Nat} {T T' : TreeD} {w w' : World} (h : NextT tb hi T T' w w') (hs : hi ≤ w.heap.size) : NextI tb hi (T.blocks tb) w T'.pl w' :=
  ⟨T'.blocks tb, ⟨⟨T', h.1, rfl, rfl⟩, Nat.le_trans hs h.2.1.size⟩, h.2.1, h.2.2⟩
def NewI (p : ProgD) (w : World) (e : Ending) (w' : World) : Prop :=
  (mayB p.Fs p.Cs = false ∧ e = .returned (.tuple #[.pointer none, .int .i64 1]) ∧ Fr [] w w') ∨
  (mayB p.Fs p.Cs = true ∧ ∃ tb hi S, e = .returned (.tuple #[.pointer (some ⟨tb, 0, none⟩), .int .i64 0]) ∧ TreeIs w' tb hi S (newPT p.Fs p.Cs) ∧ GoodP (newPT p.Fs p.Cs) 1 ∧ (∀ y ∈ S, w.heap.size ≤ y) ∧ Fr [] w w')
theorem new_is (p : ProgD) (w : World) (h : ProgAt w p) (en : ∀ f ∈ p.Fs, f.en ≤ 10) : Calls Try.prog 37 #[p.val] w (NewI p w) := by
  have HE := Lib.hid (fun f (hf : f ∈ p.Fs) => (h.flats f hf).evs.1)
  refine (new_any p w h).mono ?_
  rintro e w' (⟨hm, rfl, hF⟩ | ⟨hm, tb, hi, T, rfl, hN, hT, hs, htb, hF⟩)
  · exact .inl ⟨hm, rfl, hF⟩
  · have h0 : 0 < p.Fs.length := by
      unfold mayB at hm
      simp only [Bool.and_eq_true, decide_eq_true_iff] at hm
      omega
    refine .inr ⟨hm, tb, hi, T.blocks tb, rfl, ⟨⟨T, hT, hN.pl h0, rfl⟩, hs⟩, newPT_good hm en HE.out, fun y hy => ?_, hF⟩
    have := hT.tbh
    rcases hT.blocks_lo hy with h1 | h1 <;> omega
section
variable {w : World} {tb hi : Nat} {S : List Nat} {P : PT} {n : Nat}
theorem do_is (h : TreeIs w tb hi S P) (g : GoodP P n) (hn : n ≤ 900) (id at' : Int) :
    Calls Try.prog 41 #[.pointer (some ⟨tb, 0, none⟩), .int .i64 id, .int .i64 at'] w fun e w' => e = .returned (.tuple #[.int .i64 (doF P id at').1, .int .i64 (doF P id at').2.1]) ∧ NextI tb hi S w (doF P id at').2.2 w' := by
  obtain ⟨⟨T, hT, rfl, rfl⟩, hs⟩ := h
  refine (do_pl tb hi T id at' w hT g hn hs).mono ?_
  rintro e w' ⟨T', rfl, hp, hN⟩
  exact ⟨rfl, hp ▸ hN.is hs⟩
theorem end_is (h : TreeIs w tb hi S P) (g : GoodP P n) (hn : n ≤ 900) (id : Int) :
    Calls Try.prog 43 #[.pointer (some ⟨tb, 0, none⟩), .int .i64 id] w fun e w' => e = .returned (.int .i64 (endF P id).1) ∧ NextI tb hi S w (endF P id).2 w' := by
  obtain ⟨⟨T, hT, rfl, rfl⟩, hs⟩ := h
  refine (end_pl tb hi T id w hT g hn hs).mono ?_
  rintro e w' ⟨T', rfl, hp, hN⟩
  exact ⟨rfl, hp ▸ hN.is hs⟩
theorem tick_is (h : TreeIs w tb hi S P) (g : GoodP P n) (hn : n ≤ 900) :
    Calls Try.prog 45 #[.pointer (some ⟨tb, 0, none⟩)] w fun e w' => e = .returned (.int .i64 (tickF P).1) ∧ NextI tb hi S w (tickF P).2 w' := by
  obtain ⟨⟨T, hT, rfl, rfl⟩, hs⟩ := h
  refine (tick_pl tb hi T w hT g hn hs).mono ?_
  rintro e w' ⟨T', rfl, hp, hN⟩
  exact ⟨rfl, hp ▸ hN.is hs⟩
theorem act_is (h : TreeIs w tb hi S P) (g : GoodP P n) (hn : n ≤ 900) (k id at' : Int) :
    Calls Try.prog 60 #[.pointer (some ⟨tb, 0, none⟩), .agg #[.int .i64 k, .int .i64 id, .int .i64 at']] w fun e w' => e = .returned (.tuple #[.int .i64 (actF P k id at').1, .int .i64 (actF P k id at').2.1]) ∧ NextI tb hi S w (actF P k id at').2.2 w' := by
  obtain ⟨⟨T, hT, rfl, rfl⟩, hs⟩ := h
  refine (act_any tb hi T k id at' w hT g hn hs).mono ?_
  rintro e w' ⟨T', rfl, hp, hN⟩
  exact ⟨rfl, hp ▸ hN.is hs⟩
theorem slack_is (h : TreeIs w tb hi S P) (g : GoodP P n) (hn : n ≤ 900) :
    Calls Try.prog 54 #[.pointer (some ⟨tb, 0, none⟩)] w fun e w' => e = .returned (.int .i64 P.slack) ∧ Fr [] w w' := by
  obtain ⟨⟨T, hT, rfl, rfl⟩, hs⟩ := h
  exact slack_q tb hi T w hT g hn
theorem done_is (h : TreeIs w tb hi S P) (g : GoodP P n) (hn : n ≤ 900) :
    Calls Try.prog 56 #[.pointer (some ⟨tb, 0, none⟩)] w fun e w' => e = .returned (.bool P.done) ∧ Fr [] w w' := by
  obtain ⟨⟨T, hT, rfl, rfl⟩, hs⟩ := h
  exact done_q tb hi T w hT g hn
theorem mark_is (h : TreeIs w tb hi S P) (g : GoodP P n) (hn : n ≤ 900) (id : Int) :
    Calls Try.prog 58 #[.pointer (some ⟨tb, 0, none⟩), .int .i64 id] w (MarkQ P id w) := by
  obtain ⟨⟨T, hT, rfl, rfl⟩, hs⟩ := h
  exact mark_q tb hi T id w hT g hn
theorem depth_is (h : TreeIs w tb hi S P) (g : GoodP P n) (hn : n ≤ 900) (id : Int) :
    Calls Try.prog 52 #[.pointer (some ⟨tb, 0, none⟩), .int .i64 id] w fun e w' => e = .returned (.int .i64 (P.depth id)) ∧ Fr [] w w' := by
  obtain ⟨⟨T, hT, rfl, rfl⟩, hs⟩ := h
  exact depth_q tb hi T id w hT g hn
def IntsQ (L : List Int) (w : World) (e : Ending) (w' : World) : Prop := ∃ a c, e = .returned (.slice a L.length c) ∧ (∀ g o, a = some ⟨g, o, none⟩ → w.heap.size ≤ g) ∧ IntsAt w' a L.length L ∧ Fr [] w w'
theorem live_is (h : TreeIs w tb hi S P) : Calls Try.prog 48 #[.pointer (some ⟨tb, 0, none⟩)] w (IntsQ (P.L.map (·.id)) w) := by
  obtain ⟨⟨T, hT, rfl, rfl⟩, hs⟩ := h
  exact (live_q tb hi T w hT).mono fun e w' h => h.at_
theorem children_is (h : TreeIs w tb hi S P) (id : Int) : Calls Try.prog 50 #[.pointer (some ⟨tb, 0, none⟩), .int .i64 id] w (IntsQ ((P.kids id (-1)).map (·.id)) w) := by
  obtain ⟨⟨T, hT, rfl, rfl⟩, hs⟩ := h
  exact (children_q tb hi T id w hT).mono fun e w' h => h.at_
end
/-- A row that no act of the tree touches. -/
def Apart (a : Option Addr) (n : Nat) (w : World) (S : List Nat) : Prop := ∀ g o, 0 < n → a = some ⟨g, o, none⟩ → g ∉ S ∧ g < w.heap.size
theorem Apart.new {a : Option Addr} {n : Nat} {w w' : World} {tb hi : Nat} {S : List Nat} {P : PT} (h : TreeIs w tb hi S P) (hf : ∀ g o, 0 < n → a = some ⟨g, o, none⟩ → w.heap.size ≤ g) (hl : ∀ g o, 0 < n → a = some ⟨g, o, none⟩ → g < w'.heap.size) : Apart a n w' S :=
  fun g o h0 he => ⟨fun hs => by have := h.lt g hs; have := hf g o h0 he; omega, hl g o h0 he⟩
theorem Apart.next {a : Option Addr} {n : Nat} {w w' : World} {S S' : List Nat} (h : Apart a n w S) (f : Fr S w w') (hS : ∀ y ∈ S', y ∈ S ∨ w.heap.size ≤ y) : Apart a n w' S' := fun g o h0 he => by
  obtain ⟨h1, h2⟩ := h g o h0 he
  refine ⟨fun hs => ?_, Nat.lt_of_lt_of_le h2 f.size⟩
  rcases hS g hs with h3 | h3
  · exact h1 h3
  · omega
theorem Apart.fr {a : Option Addr} {n : Nat} {w w' : World} {S : List Nat} (h : Apart a n w S) (f : Fr [] w w') : Apart a n w' S := fun g o h0 he => ⟨(h g o h0 he).1, Nat.lt_of_lt_of_le (h g o h0 he).2 f.size⟩
theorem RowsAt.frA {w w' : World} {a : Option Addr} {n k : Nat} {C : Nat → List Value} {S : List Nat} (h : RowsAt w a n k C) (f : Fr S w w') (hA : Apart a n w S) : RowsAt w' a n k C := by
  refine ⟨fun h0 => ?_⟩
  obtain ⟨b, o, he, hb, hc⟩ := h.at_ h0
  refine ⟨b, o, he, Nat.lt_of_lt_of_le hb f.size, fun i hi j v hj => ?_⟩
  rw [World.cell?_of_block (f.block b hb (hA b o h0 he).1)]
  exact hc i hi j v hj
theorem MarksAt.next {w w' : World} {a : Option Addr} {n : Nat} {M : List MarkD} {S : List Nat} (h : MarksAt w a n M) (f : Fr S w w') (hA : Apart a n w S) : MarksAt w' a n M := ⟨h.1, h.2.frA f hA⟩
theorem IntsAt.next {w w' : World} {a : Option Addr} {n : Nat} {M : List Int} {S : List Nat} (h : IntsAt w a n M) (f : Fr S w w') (hA : Apart a n w S) : IntsAt w' a n M := ⟨h.1, h.2.frA f hA⟩
theorem RowsAt.lt {w : World} {a : Option Addr} {n k : Nat} {C : Nat → List Value} (h : RowsAt w a n k C) : ∀ g o, 0 < n → a = some ⟨g, o, none⟩ → g < w.heap.size := fun g o h0 he => by
  obtain ⟨b, o', he', hb, _⟩ := h.at_ h0
  rw [he] at he'
  cases he'
  exact hb
/-- The run. -/
def runT (P : PT) (L : List ActD) : PT := L.foldl (fun P x => (actF P x.k x.id x.at_).2.2) P
theorem runT_succ (P : PT) (L : List ActD) (j : Nat) (h : j < L.length) : runT P (L.take (j + 1)) = (actF (runT P (L.take j)) (L.getD j default).k (L.getD j default).id (L.getD j default).at_).2.2 := by
  unfold runT
  rw [take_succD L j h, List.foldl_append]
  rfl
theorem runT_good {P : PT} {n : Nat} (g : GoodP P n) (L : List ActD) : GoodP (runT P L) (n + L.length) := by
  unfold runT
  induction L generalizing P n with
  | nil => exact g
  | cons x L ih =>
    have := ih (g.actF x.k x.id x.at_)
    rw [List.foldl_cons]
    rw [show n + (x :: L).length = n + 1 + L.length by simp; omega]
    exact this
end Go.Proofs.Ytclkahggfdnpgaa
