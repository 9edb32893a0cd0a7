/- A tree without calls is a marking. Plain. -/
import Derived.Test.YtclkahggfdnpgaaTrT
set_option linter.unusedVariables false
set_option linter.unusedSimpArgs false
namespace Go.Proofs.Ytclkahggfdnpgaa
open Go.RowKit
/-- A tree of one instance, without calls. -/
def lone (Fs : List FlatD) (M : List MarkD) : PT := ⟨Fs, fun _ => none, [⟨0, 0, M, -1, -1⟩], 1⟩
theorem newPT_lone (Fs : List FlatD) : newPT Fs [] = lone (Fs.map FlatD.nrm) ((Fs.getD 0 default).E.map startM) := rfl
theorem lone_of (Fs : List FlatD) (M : List MarkD) : (lone Fs M).of 0 = some ⟨0, 0, M, -1, -1⟩ := rfl
theorem lone_no (Fs : List FlatD) (M : List MarkD) {id : Int} (h : id ≠ 0) : (lone Fs M).of id = none := by
  rw [of_none]
  intro x hx
  obtain rfl := List.mem_singleton.1 hx
  exact fun he => h he.symm
theorem lone_f (Fs : List FlatD) (M : List MarkD) : (lone Fs M).f ⟨0, 0, M, -1, -1⟩ = Fs.getD 0 default := rfl
theorem lone_setm (Fs : List FlatD) (M N : List MarkD) : (lone Fs M).setm 0 N = lone Fs N := rfl
theorem lone_do0 {Fs : List FlatD} {M : List MarkD} {at' : Int} (hE : doE (Fs.getD 0 default) M at' = 0) : doF (lone Fs M) 0 at' = (-1, 0, lone Fs (doM (Fs.getD 0 default) M at'.toNat)) := by
  unfold doE at hE
  split at hE
  · cases hE
  · split at hE
    · cases hE
    · rename_i hr
      split at hE
      · cases hE
      · rename_i he
        have hr2 : hasP at' M.length = true := by unfold hasP; simp; omega
        rw [doF_done (lone_of Fs M) hr2 (by rw [lone_f]; simpa using he) rfl, lone_f, lone_setm]
theorem lone_doE {Fs : List FlatD} {M : List MarkD} {at' : Int} (hf : fitsB (Fs.getD 0 default).en M = true) (hE : doE (Fs.getD 0 default) M at' ≠ 0) : doF (lone Fs M) 0 at' = (0, doE (Fs.getD 0 default) M at', lone Fs M) := by
  unfold doE at hE ⊢
  rw [if_neg (by rw [hf]; simp)] at hE ⊢
  split
  · rename_i hr
    have hr2 : hasP at' M.length = false := by
      unfold hasP
      rw [Bool.and_eq_false_iff]
      rcases hr with h | h
      · exact .inl (decide_eq_false (by omega))
      · exact .inr (decide_eq_false (by omega))
    rw [doF_range (lone_of Fs M) hr2]
  · rename_i hr
    rw [if_neg hr] at hE
    split
    · rename_i he
      have hr2 : hasP at' M.length = true := by unfold hasP; simp; omega
      rw [doF_off (lone_of Fs M) hr2 (by rw [lone_f]; exact he)]
    · rename_i he
      rw [if_neg he] at hE
      exact absurd rfl hE
theorem lone_doN {Fs : List FlatD} {M : List MarkD} {id at' : Int} (h : id ≠ 0) : doF (lone Fs M) id at' = (0, 10, lone Fs M) := doF_none (lone_no Fs M h)
theorem lone_end0 {Fs : List FlatD} {M : List MarkD} : endF (lone Fs M) 0 = (1, lone Fs M) := by rw [endF_some (lone_of Fs M), if_pos rfl]
theorem lone_endN {Fs : List FlatD} {M : List MarkD} {id : Int} (h : id ≠ 0) : endF (lone Fs M) id = (10, lone Fs M) := endF_none (lone_no Fs M h)
theorem lone_slack {Fs : List FlatD} {M : List MarkD} (hf : fitsB (Fs.getD 0 default).en M = true) : (lone Fs M).slack = slackI (Fs.getD 0 default).en M := by
  have := slack_nn hf
  show min 1048576 (slackI (Fs.getD 0 default).en M) = _
  omega
theorem lone_tick0 {Fs : List FlatD} {M : List MarkD} (hf : fitsB (Fs.getD 0 default).en M = true) (hE : tickE (Fs.getD 0 default) M = 0) : tickF (lone Fs M) = (0, lone Fs (M.map tickM)) := by
  have h1 := slack_nn hf
  have h2 := lone_slack hf
  unfold tickE at hE
  split at hE
  · cases hE
  · split at hE
    · cases hE
    · rw [tickF_go (by rw [h2]; omega)]
      rfl
theorem lone_tickE {Fs : List FlatD} {M : List MarkD} (hf : fitsB (Fs.getD 0 default).en M = true) (hE : tickE (Fs.getD 0 default) M ≠ 0) : tickE (Fs.getD 0 default) M = 13 ∧ tickF (lone Fs M) = (13, lone Fs M) := by
  have h1 := slack_nn hf
  have h2 := lone_slack hf
  unfold tickE at hE ⊢
  rw [if_neg (by omega)] at hE ⊢
  split at hE
  · rename_i h0
    rw [if_pos h0]
    exact ⟨rfl, tickF_due (by rw [h2]; omega)⟩
  · exact absurd rfl hE
theorem lone_done (Fs : List FlatD) (M : List MarkD) : (lone Fs M).done = accB (Fs.getD 0 default).en M := by
  show (decide ([_].length = 1) && accB (Fs.getD 0 default).en M) = _
  rfl
theorem lone_good {Fs : List FlatD} {M N : List MarkD} {n : Nat} (g : GoodP (lone Fs M) n) (hf : fitsB (Fs.getD 0 default).en N = true) : GoodP (lone Fs N) n := by
  have := g.setm (x := ⟨0, 0, M, -1, -1⟩) (List.mem_singleton.2 rfl) (M := N) hf
  exact this
theorem may_alone {Fs : List FlatD} : mayB Fs [] = (decide (1 ≤ Fs.length) && decide (Fs.length ≤ 8)) := by
  unfold mayB
  simp
theorem lone_fits {Fs : List FlatD} {M : List MarkD} {n : Nat} (g : GoodP (lone Fs M) n) : fitsB (Fs.getD 0 default).en M = true := g.fit ⟨0, 0, M, -1, -1⟩ (List.mem_singleton.2 rfl)
theorem cell_frA {w w' : World} {b o : Nat} {S : List Nat} (hA : Apart (some ⟨b, o, none⟩) 1 w S) (f : Fr S w w') (j : Nat) : w'.cell? ⟨b, j, none⟩ = w.cell? ⟨b, j, none⟩ := by
  obtain ⟨h1, h2⟩ := hA b o (by omega) rfl
  exact World.cell?_of_block (f.block b h2 h1)
theorem Apart.mk1 {w : World} {tb hi : Nat} {S : List Nat} {P : PT} (h : TreeIs w tb hi S P) {w' : World} (f : Fr [] w w') {b : Nat} (hb : w.heap.size ≤ b) (hb2 : b < w'.heap.size) : Apart (some ⟨b, 0, none⟩) 1 w' S := fun g o _ he => by
  cases he
  exact ⟨fun hs => by have := h.lt b hs; omega, hb2⟩
theorem lone_mark {w : World} {tb hi : Nat} {S : List Nat} {Fs : List FlatD} {M : List MarkD} {n k : Nat} (h : TreeIs w tb hi S (lone Fs M)) (g : GoodP (lone Fs M) k) (hk : k ≤ 900) (hn : M.length = n) :
    Calls Try.prog 58 #[.pointer (some ⟨tb, 0, none⟩), .int .i64 0] w fun e w' => ∃ a c, e = .returned (.tuple #[.slice a n c, .bool true]) ∧ MarksAt w' a n M ∧ Fr [] w w' := by
  refine (mark_is h g hk 0).mono ?_
  rintro e w' (⟨hm, _⟩ | ⟨x, hx, a, c, rfl, hM, _, hF⟩)
  · rw [lone_of] at hm; cases hm
  · rw [lone_of] at hx
    cases hx
    subst hn
    exact ⟨a, c, rfl, hM, hF⟩
theorem zero77 : (Try.prog.info? 77).map (fun i => (i.size, i.zero.map (·.cells.size))) = some (3, some 3) := by kernel_rfl
theorem agg77 (w : World) : (isAgg 77).run Try.prog w = .ok true w := by kernel_rfl
theorem size77 : (Try.prog.info? 77).map (·.size) = some 3 := by kernel_rfl
end Go.Proofs.Ytclkahggfdnpgaa
