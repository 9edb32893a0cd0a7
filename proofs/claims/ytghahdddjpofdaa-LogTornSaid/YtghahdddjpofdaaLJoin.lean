/- Joined frames. -/
import Derived.Test.YtghahdddjpofdaaLRef2
import Derived.Test.YtghahdddjpofdaaLBld

set_option linter.unusedVariables false
set_option linter.unusedSimpArgs false
namespace Go.Proofs.Ytghahdddjpofdaa
open Go.RowKit

def joinL (L : List (List UInt8)) : List UInt8 := (L.map frameL).flatten
theorem joinL_snoc (L : List (List UInt8)) (r : List UInt8) : joinL (L ++ [r]) = joinL L ++ frameL r := by simp [joinL]
theorem joinL_cons (L : List (List UInt8)) (r : List UInt8) : joinL (r :: L) = frameL r ++ joinL L := by simp [joinL]
theorem joinL_length (L : List (List UInt8)) : (joinL L).length = lenA L := by
  induction L with
  | nil => rfl
  | cons r L ih => rw [joinL_cons, List.length_append, ih, frameL_length]; simp [lenA]
def allGood (L : List (List UInt8)) : Prop := ∀ r ∈ L, goodL r
theorem lenA_le (L : List (List UInt8)) (h : allGood L) : lenA L ≤ 408 * L.length := by
  induction L with
  | nil => simp [lenA]
  | cons r L ih =>
    have h1 := ih fun x hx => h x (by simp [hx])
    have h2 := (h r (by simp)).2
    simp [lenA] at h1 ⊢
    omega
noncomputable def joinS (L : List (List UInt8)) : ByteArray := open Classical in if allGood L then ⟨(joinL L).toArray⟩ else ⟨#[]⟩
noncomputable def joinE (L : List (List UInt8)) : Int := open Classical in if allGood L then 0 else 3
theorem take_snocL (L : List (List UInt8)) (j : Nat) (r : List UInt8) (h : L[j]? = some r) : L.take (j + 1) = L.take j ++ [r] := by
  have hl := (List.getElem?_eq_some_iff.1 h)
  rw [List.take_succ_eq_append_getElem hl.1, hl.2]
theorem builder_fr {T e : TypeId} {B b : Nat} {p : Value} {bs : List Value} {w w' : World} (h : Lib.BuilderAt T e B b p bs w) (f : Fr [] w w') : Lib.BuilderAt T e B b p bs w' := by
  obtain ⟨hB, v, hb, hown, hne⟩ := h
  exact ⟨hB, v, (f.block b (Array.getElem?_eq_some_iff.1 hb).1 (by simp)).trans hb, own_fr hown f, hne⟩
theorem isBuilder_fr {T e : TypeId} {B b : Nat} {bs : List Value} {w w' : World} (h : Lib.IsBuilder T e B b bs w) (f : Fr [] w w') : Lib.IsBuilder T e B b bs w' := by
  rcases h with h | h
  · exact .inl (builder_fr h f)
  · exact .inr (builder_fr h f)
theorem frameL_ne (r : List UInt8) : frameL r ≠ [] := by simp [frameL]
theorem join_any (a : Option Addr) (n c : Nat) (L : List (List UInt8)) (w : World) (hL : StrsAt w a n L) (hn : n ≤ 100000) :
    Calls Try.prog 15 #[.slice a n c] w (Told (joinS L) (joinE L) w) := by
  have hlen := hL.len
  have HL := Lib.hid hL
  clear hL
  go_enter Try.func15, Try.ntmps15
  go_wp2_with fail
  go_loopg [11] n (fun k i wr => ∃ j : Nat, k = n - j ∧ j ≤ n ∧ i = .int .i64 j ∧ allGood (L.take j) ∧ Lib.IsBuilder 45 5 w.heap.size w.heap.size (bcells (joinL (L.take j))) wr ∧ (j = 0 → wr.cell? ⟨w.heap.size, 1, none⟩ = some (.slice none 0 0)) ∧ Below w.heap.size w wr)
  case atStart =>
    refine ⟨0, rfl, by omega, rfl, by simp [allGood], Lib.fresh_isBuilder 45 5 w, fun _ => (Row.new w [.pointer none, .slice none 0 0] 45).cell 1, (Below.refl _ _).alloc (Nat.le_refl _) _⟩
  case round =>
    obtain ⟨j, rfl, hj, rfl, hG, hI, hZ, hB⟩ := hrel
    have G := Lib.hid hG
    have I := Lib.hid hI
    have Z := Lib.hid hZ
    have B := Lib.hid hB
    clear hG hI hZ hB
    by_cases hjn : j < n
    · have hd : decide (j < n) = true := by rw [decide_eq_true_iff]; omega
      obtain ⟨b1, o1, rfl, hb1, hc1⟩ := HL.out.at_ (by omega)
      have g1 : L[j]? = some (L[j]'(by omega)) := List.getElem?_eq_getElem (by omega)
      have k1 := hc1 j _ g1
      rw [← B.out.cell (p := ⟨b1, o1 + j, none⟩) hb1] at k1
      have t1 := take_snocL L j _ g1
      have T1 := Lib.hid t1
      have G1 := Lib.hid g1
      clear hc1 t1 g1
      generalize L[j]'(by omega) = x at k1 T1 G1
      unfold str at k1
      go_wp2_with fail
      have C1 := frame_any ⟨x.toArray⟩ wr
      by_cases hg : goodL x
      · have hfs : frameS ⟨x.toArray⟩ = ⟨(frameL x).toArray⟩ := by unfold frameS; rw [if_pos hg]
        have hfe : frameE ⟨x.toArray⟩ = 0 := by unfold frameE; rw [if_pos hg]
        rw [hfs, hfe] at C1
        clear hfs hfe
        refine C1.mono ?_
        rintro e w2 ⟨rfl, hF⟩
        have I2 := Lib.hid (isBuilder_fr I.out hF)
        have B2 := Lib.hid (B.out.trans (hF.below (by simp) B.out.size))
        have hg2 : allGood (L.take (j + 1)) := by
          rw [T1.out]
          intro r hr
          rcases List.mem_append.1 hr with h | h
          · exact G.out r h
          · rw [List.mem_singleton.1 h]; exact hg
        have hla := lenA_le _ G.out
        rw [List.length_take] at hla
        have hfl := frameL_length x
        have hgx := hg.2
        have G2 := Lib.hid hg2
        clear hF hg2 C1
        have C2 := bwrites_any w.heap.size w.heap.size _ ⟨(frameL x).toArray⟩ w2 I2.out (by rw [bcells_length, joinL_length, bsize]; omega) B2.out.size
        go_wp2_with fail
        refine C2.mono ?_
        rintro e w3 ⟨rfl, hI3, hB3⟩
        have I3 := Lib.hid hI3
        have B3 := Lib.hid (B2.out.trans hB3)
        clear C2 hI3 hB3
        go_wp2_with fail
        go_roundg (n - (j + 1))
        case measure => omega
        case rel =>
          refine ⟨j + 1, rfl, by omega, rfl, G2.out, .inr ?_, fun h => by omega, B3.out⟩
          rw [T1.out, joinL_snoc]
          have e1 : bcells (joinL (L.take j) ++ frameL x) = bcells (joinL (L.take j)) ++ bcells (frameL x) := by simp [bcells]
          rw [e1]
          exact I3.out
      · have hfs : frameS ⟨x.toArray⟩ = ⟨#[]⟩ := by unfold frameS; rw [if_neg hg]
        have hfe : frameE ⟨x.toArray⟩ = 3 := by unfold frameE; rw [if_neg hg]
        rw [hfs, hfe] at C1
        clear hfs hfe
        have hbad : ¬ allGood L := fun h => hg (h x (List.mem_of_getElem? G1.out))
        have hjs : joinS L = ⟨#[]⟩ := by unfold joinS; rw [if_neg hbad]
        have hje : joinE L = 3 := by unfold joinE; rw [if_neg hbad]
        refine C1.mono ?_
        rintro e w2 ⟨rfl, hF⟩
        go_wp2_with fail
        go_ret2
        rw [hjs, hje]
        exact ⟨rfl, Fr.of_below (B.out.trans (hF.below (by simp) B.out.size)) _⟩
    · have hd : decide (j < n) = false := by rw [decide_eq_false_iff_not]; omega
      obtain rfl : j = n := by omega
      have hfull : L.take j = L := List.take_of_length_le (by omega)
      have hg := G.out
      rw [hfull] at hg
      have hjs : joinS L = ⟨(joinL L).toArray⟩ := by unfold joinS; rw [if_pos hg]
      have hje : joinE L = 0 := by unfold joinE; rw [if_pos hg]
      have JS := Lib.hid hjs
      have JE := Lib.hid hje
      clear hjs hje
      by_cases hj0 : j = 0
      · have hLn : L = [] := List.eq_nil_of_length_eq_zero (by omega)
        have hz := Z.out hj0
        clear hfull hg
        go_wp2_with fail
        refine (bstring_zero w.heap.size wr hz).mono ?_
        rintro e w2 ⟨rfl, hF⟩
        go_wp2_with fail
        go_ret2
        rw [JS.out, JE.out, hLn]
        exact ⟨rfl, Fr.of_below (B.out.trans (hF.below (by simp) B.out.size)) _⟩
      · have hI := I.out
        rw [hfull] at hI
        have hne : joinL L ≠ [] := by
          intro h
          have h2 := joinL_length L
          have h3 := len_le L
          rw [h, List.length_nil] at h2
          omega
        have C1 := bstring_any w.heap.size w.heap.size (joinL L) wr hI hne
        clear hfull hg hI
        go_wp2_with fail
        refine C1.mono ?_
        rintro e w2 ⟨rfl, hF⟩
        go_wp2_with fail
        go_ret2
        rw [JS.out, JE.out]
        exact ⟨rfl, Fr.of_below (B.out.trans hF) _⟩
end Go.Proofs.Ytghahdddjpofdaa
