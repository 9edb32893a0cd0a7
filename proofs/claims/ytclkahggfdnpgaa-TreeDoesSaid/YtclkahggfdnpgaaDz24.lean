/- Parts of the proof: Rt8. (Merged by pack.py.) -/
import Derived.Test.YtclkahggfdnpgaaDz23
set_option linter.unusedVariables false
set_option linter.unusedSimpArgs false
namespace Go.Proofs.Ytclkahggfdnpgaa
open Go.RowKit
theorem call_some {Cs : List CallD} (u : UniqC Cs) {i : Nat} (hi : i < Cs.length) : ∀ n, i < n → n ≤ Cs.length → callsM Cs n (Cs.getD i default).key = some (Cs.getD i default) := by
  intro n
  induction n with
  | zero => intro h; omega
  | succ n ih =>
    intro h hn
    show (if (Cs.getD i default).key = (Cs.getD n default).key then some (Cs.getD n default) else callsM Cs n (Cs.getD i default).key) = _
    by_cases he : (Cs.getD i default).key = (Cs.getD n default).key
    · have := u i n hi (by omega) he
      subst this
      rw [if_pos rfl]
    · rw [if_neg he]
      refine ih ?_ (by omega)
      rcases Nat.lt_or_ge i n with h1 | h1
      · exact h1
      · exact absurd (by rw [show i = n by omega]) he
theorem call_none {Cs : List CallD} {y : Int × Int} : ∀ n, (∀ i, i < n → (Cs.getD i default).key ≠ y) → callsM Cs n y = none := by
  intro n
  induction n with
  | zero => intro _; rfl
  | succ n ih =>
    intro h
    show (if y = (Cs.getD n default).key then some (Cs.getD n default) else callsM Cs n y) = _
    rw [if_neg (fun e => h n (by omega) e.symm)]
    exact ih (fun i hi => h i (by omega))
theorem doE_zero {f : FlatD} {M : List MarkD} {i : Int} (h : doE f M i = 0) : hasP i M.length = true ∧ enabB f M i = true := by
  unfold doE at h
  split at h
  · cases h
  · split at h
    · cases h
    · rename_i hr
      split at h
      · cases h
      · rename_i he
        exact ⟨by unfold hasP; simp; omega, by simpa using he⟩
theorem doF_err {P : PT} {id at' : Int} {x : PI} (ho : P.of id = some x) (hf : fitsB (P.f x).en x.m = true) (hE : doE (P.f x) x.m at' ≠ 0) : doF P id at' = (0, doE (P.f x) x.m at', P) := by
  unfold doE at hE ⊢
  rw [if_neg (by rw [hf]; simp)] at hE ⊢
  split
  · rename_i hr
    have hr2 : hasP at' x.m.length = false := by
      unfold hasP
      rw [Bool.and_eq_false_iff]
      rcases hr with h | h
      · exact .inl (decide_eq_false (by omega))
      · exact .inr (decide_eq_false (by omega))
    rw [doF_range ho hr2]
  · rename_i hr
    rw [if_neg hr] at hE
    split
    · rename_i he
      exact doF_off ho (by unfold hasP; simp; omega) he
    · rename_i he
      rw [if_neg he] at hE
      exact absurd rfl hE
/-- A node is put behind all. -/
def RefD.push (R : RefD) (v : Value) (x : RND) : RefD := { R with lv := v, L := R.L ++ [x] }
theorem flatC_push (L : List RND) (x : RND) : flatC (fun i => ((L ++ [x]).getD i default).cells) (L.length + 1) = flatC (fun i => (L.getD i default).cells) L.length ++ x.cells := by
  show flatC (fun i => ((L ++ [x]).getD i default).cells) L.length ++ ((L ++ [x]).getD L.length default).cells = _
  rw [flatC_congr (C := fun i => (L.getD i default).cells) (C' := fun i => ((L ++ [x]).getD i default).cells) L.length (fun i hi => by
    show ((L ++ [x]).getD i default).cells = (L.getD i default).cells
    simp only [List.getD_eq_getElem?_getD]
    rw [List.getElem?_append_left hi])]
  congr 2
  simp
theorem own_base {w : World} {base base' : Nat} {e : TypeId} {size : Nat} {v : Value} {n : Nat} {xs : List Value} (h : w.ownsRow base e size v n xs) (hb : base' ≤ base) : w.ownsRow base' e size v n xs :=
  ⟨h.1, h.2.imp id fun ⟨g, cap, cur, h1, h2, h3⟩ => ⟨g, cap, cur, h1, Nat.le_trans hb h2, h3⟩⟩
theorem push_fin {w w6 : World} {rb B : Nat} {R : RefD} (h : RefAt w rb R) (f : Fr [] w w6) {v : Value} {x : RND} (own : w6.ownsRow B 125 5 v (R.L.length + 1) (flatC R.cs R.L.length ++ x.cells)) (hB : w.heap.size ≤ B) (hm : MarksAt w6 x.a x.m.length x.m)
    (ha : ∀ q, Holds x.a x.m.length q → w.heap.size ≤ q ∧ v.ownBlock ≠ some q) (hfew : R.L.length < 900) :
    NextR rb R (R.push v x) w (w6.setCell ⟨rb, 2, none⟩ v) := by
  have fS : Fr [rb] w6 (w6.setCell ⟨rb, 2, none⟩ v) := (Fr.refl _ w6).setCell (.inl (by simp)) _
  have f8 : Fr [rb] w (w6.setCell ⟨rb, 2, none⟩ v) := (f.mono (by simp)).trans fS (fun y hy => .inl hy)
  have hrb : rb ∈ R.blocks rb := List.mem_cons_self ..
  have hrl := h.head.lt
  have hv : ∀ y, v.ownBlock = some y → w.heap.size ≤ y := fun y hy => Nat.le_trans hB (own.lt y hy).1
  have hfo : ∀ q, R.foot q → q ∉ [rb] := fun q hq hqg => by
    obtain rfl := List.mem_singleton.1 hqg
    exact h.apart q hq hrb
  have hft : ∀ q, (R.push v x).foot q → R.foot q ∨ w.heap.size ≤ q ∧ v.ownBlock ≠ some q := by
    intro q hq
    rcases hq with hq | hq | hq | ⟨y, hy, hq⟩
    · exact .inl (.inl hq)
    · exact .inl (.inr (.inl hq))
    · exact .inl (.inr (.inr (.inl hq)))
    · rcases List.mem_append.1 hy with hy | hy
      · exact .inl (.inr (.inr (.inr ⟨y, hy, hq⟩)))
      · obtain rfl := List.mem_singleton.1 hy
        exact .inr (ha q hq)
  have hbl : ∀ y ∈ (R.push v x).blocks rb, y = rb ∨ v.ownBlock = some y := by
    intro y hy
    rcases List.mem_cons.1 hy with h1 | h1
    · exact .inl h1
    · have h2 : y ∈ v.ownBlock.toList := h1
      exact .inr (by simpa using h2)
  refine ⟨⟨?_, h.rows.frH f8 (fun q hq => hfo q (.inl hq)), fun y hy => ?_, h.calls.frH f8 (fun q hq => hfo q (.inr (.inr (.inl hq)))), ?_, fun y hy => ?_, fun q hq hqb => ?_, fun e => by have := hv rb e; omega, by show (R.L ++ [x]).length ≤ 900; simp; omega, h.en, h.uq, h.cf⟩, f8.mono (fun y hy => by obtain rfl := List.mem_singleton.1 hy; exact .inl hrb), fun y hy => ?_, fun q hq => ?_⟩
  · have := (h.head.fr f (by simp)).setCell 2 v
    exact this
  · have hf := h.flats y hy
    exact ⟨⟨hf.evs.1, hf.evs.2.frH f8 (fun q hq => hfo q (.inr (.inl ⟨y, hy, .inl hq⟩)))⟩, ⟨hf.ties.1, hf.ties.2.frH f8 (fun q hq => hfo q (.inr (.inl ⟨y, hy, .inr hq⟩)))⟩, hf.few, hf.few2⟩
  · show (w6.setCell ⟨rb, 2, none⟩ v).ownsRow 0 125 5 v (R.L ++ [x]).length (flatC (fun i => ((R.L ++ [x]).getD i default).cells) (R.L ++ [x]).length)
    rw [show (R.L ++ [x]).length = R.L.length + 1 by simp, flatC_push]
    exact own_base (own_frS own fS (fun y hy => by have := hv y hy; simp; omega)) (Nat.zero_le _)
  · rcases List.mem_append.1 hy with hy | hy
    · exact ⟨(h.mks y hy).1, (h.mks y hy).2.frH f8 (fun q hq => hfo q (.inr (.inr (.inr ⟨y, hy, hq⟩))))⟩
    · obtain rfl := List.mem_singleton.1 hy
      exact ⟨hm.1, hm.2.frH fS (fun q hq hqg => by
        have := ha q hq
        obtain rfl := List.mem_singleton.1 hqg
        omega)⟩
  · rcases hft q hq with h1 | ⟨h1, h2⟩
    · rcases hbl q hqb with h3 | h3
      · subst h3
        exact h.apart _ h1 hrb
      · have := hv q h3
        have := h.foot_lt h1
        omega
    · rcases hbl q hqb with h3 | h3
      · omega
      · exact h2 h3
  · rcases hbl y hy with h3 | h3
    · subst h3; exact .inl hrb
    · exact .inr (hv y h3)
  · rcases hft q hq with h1 | ⟨h1, _⟩
    · exact .inl h1
    · exact .inr h1
theorem liveN_congr {L L' : List RND} : ∀ n, (∀ i, i < n → L'.getD i default = L.getD i default) → liveN L' n = liveN L n := by
  intro n
  induction n with
  | zero => intro _; rfl
  | succ n ih =>
    intro h
    rw [liveN_succ, liveN_succ, ih (fun i hi => h i (by omega)), h n (by omega)]
theorem push_pl (R : RefD) (v : Value) (x : RND) (hx : x.lives = true) : (R.push v x).pl = { R.pl with L := R.pl.L ++ [x.pi R.L.length], next := R.pl.next + 1 } := by
  refine PT.ext rfl rfl ?_ (by show (R.L ++ [x]).length = R.L.length + 1; simp)
  show liveN (R.L ++ [x]) (R.L ++ [x]).length = liveN R.L R.L.length ++ [x.pi R.L.length]
  rw [show (R.L ++ [x]).length = R.L.length + 1 by simp, liveN_succ, liveN_congr (L := R.L) R.L.length (fun i hi => by
    simp only [List.getD_eq_getElem?_getD]
    rw [List.getElem?_append_left hi])]
  have : (R.L ++ [x]).getD R.L.length default = x := by simp
  rw [this, if_pos hx]
def RDoP (rb : Nat) (R : RefD) (id at' : Int) (w : World) (e : Ending) (w' : World) : Prop :=
  ∃ R', e = .returned (.tuple #[.int .i64 (doF R.pl id at').1, .int .i64 (doF R.pl id at').2.1]) ∧ R'.pl = (doF R.pl id at').2.2 ∧ NextR rb R R' w w'
end Go.Proofs.Ytclkahggfdnpgaa
