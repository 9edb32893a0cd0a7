/- Scans, and comparing records. -/
import Derived.Test.YtghahdddjpofdaaLFrm
import Derived.Laws.AppendOwn
import Derived.Laws.OwnMore


set_option linter.unusedVariables false
set_option linter.unusedSimpArgs false
namespace Go.Proofs.Ytghahdddjpofdaa
open Go.RowKit

theorem infoStr : (Try.prog.info? 9).map (fun i => (i.zero, i.size, i.bytes)) = some (some (.string ⟨#[]⟩), 1, 16) := by kernel_rfl
/-- A text of a list of bytes. -/
def str (r : List UInt8) : Value := .string ⟨r.toArray⟩
theorem str_of (s : ByteArray) : Value.string s = str s.data.toList := rfl
theorem oneB_len {s : List UInt8} (h : oneB s = true) : 9 ≤ s.length ∧ recN s ≤ 400 ∧ recN s + 8 ≤ s.length ∧ 1 ≤ recN s ∧ hasP s (frameL (recL s)) = true := by
  unfold oneB at h
  simp only [Bool.and_eq_true, decide_eq_true_eq] at h
  obtain ⟨⟨⟨⟨⟨h1, _⟩, h2⟩, h3⟩, h4⟩, h5⟩ := h
  exact ⟨h1, h2, h3, h4, h5⟩
theorem recL_len {s : List UInt8} (h : oneB s = true) : (recL s).length = recN s := by
  obtain ⟨h1, h2, h3, h4, h5⟩ := oneB_len h
  unfold recL
  rw [List.length_take, List.length_drop]
  omega
def scanL (s : List UInt8) : List (List UInt8) :=
  if h : oneB s = true then recL s :: scanL (s.drop ((recL s).length + 8)) else []
termination_by s.length
decreasing_by
  obtain ⟨h1, h2, h3, h4, h5⟩ := oneB_len h
  rw [List.length_drop]
  omega
theorem scanL_yes {s : List UInt8} (h : oneB s = true) : scanL s = recL s :: scanL (s.drop ((recL s).length + 8)) := by rw [scanL, dif_pos h]
theorem scanL_no {s : List UInt8} (h : oneB s = false) : scanL s = [] := by rw [scanL, dif_neg (by rw [h]; simp)]
def lenA (l : List (List UInt8)) : Nat := (l.map fun r => r.length + 8).sum
theorem lenA_snoc (l : List (List UInt8)) (r : List UInt8) : lenA (l ++ [r]) = lenA l + (r.length + 8) := by simp [lenA]
theorem len_le (l : List (List UInt8)) : l.length ≤ lenA l := by
  induction l with
  | nil => simp [lenA]
  | cons r l ih => simp [lenA] at ih ⊢; omega
/-- How a scan of s stands behind the records l. -/
structure Mid (s : List UInt8) (l : List (List UInt8)) : Prop where
  le : lenA l ≤ s.length
  eq : scanL s = l ++ scanL (s.drop (lenA l))
theorem Mid.nil (s : List UInt8) : Mid s [] := ⟨by simp [lenA], by simp [lenA]⟩
theorem Mid.snoc {s : List UInt8} {l : List (List UInt8)} (h : Mid s l) (h1 : oneB (s.drop (lenA l)) = true) : Mid s (l ++ [recL (s.drop (lenA l))]) := by
  have hl := h.le
  obtain ⟨g1, g2, g3, g4, g5⟩ := oneB_len h1
  have hr := recL_len h1
  rw [List.length_drop] at g3
  refine ⟨by rw [lenA_snoc]; omega, ?_⟩
  rw [lenA_snoc, h.eq, scanL_yes h1, List.append_assoc, List.drop_drop]
  rfl
theorem Mid.last {s : List UInt8} {l : List (List UInt8)} (h : Mid s l) (h1 : oneB (s.drop (lenA l)) = false) : scanL s = l := by rw [h.eq, scanL_no h1, List.append_nil]
def ScanP (s : ByteArray) (w : World) (e : Ending) (w' : World) : Prop :=
  ∃ v, e = .returned (.tuple #[v, .int .i64 (lenA (scanL s.data.toList))]) ∧ w'.ownsRow w.heap.size 9 1 v (scanL s.data.toList).length ((scanL s.data.toList).map str) ∧ Fr [] w w'
theorem drop_bytes (s : ByteArray) (k : Nat) : (s.extract k s.size).data.toList = s.data.toList.drop k := by
  rw [ext_data, List.take_of_length_le (by rw [List.length_drop]; exact Nat.le_refl _)]
theorem own_slice {w : World} {base : Nat} {e : TypeId} {size n : Nat} {v : Value} {xs : List Value} (h : w.ownsRow base e size v n xs) : ∃ a c, v = .slice a n c := by
  rcases h.2 with ⟨rfl, rfl⟩ | ⟨g, cap, cur, rfl, _⟩
  · exact ⟨_, _, rfl⟩
  · exact ⟨_, _, rfl⟩
theorem own_fr {w w' : World} {base : Nat} {e : TypeId} {size n : Nat} {v : Value} {xs : List Value} (h : w.ownsRow base e size v n xs) (f : Fr [] w w') : w'.ownsRow base e size v n xs := by
  refine ⟨h.1, ?_⟩
  rcases h.2 with ⟨rfl, rfl⟩ | ⟨g, cap, cur, rfl, hb, hg, r⟩
  · exact .inl ⟨rfl, rfl⟩
  · exact .inr ⟨g, cap, cur, rfl, hb, (f.block g ((Array.getElem?_eq_some_iff.1 hg).1) (by simp)).trans hg, r⟩
theorem scan_any (s : ByteArray) (w : World) (hs : s.size ≤ 1000000) : Calls Try.prog 10 #[.string s] w (ScanP s w) := by
  obtain ⟨i0, hi, hz0, hz1, hz2⟩ := info_parts infoStr
  have HI := Lib.hid hi
  have HZ0 := Lib.hid hz0
  have HZ1 := Lib.hid hz1
  have HZ2 := Lib.hid hz2
  clear hi hz0 hz1 hz2
  have HW := Lib.hid (World.ownsRow_nil w w.heap.size 9 1)
  go_enter Try.func10, Try.ntmps10
  go_wp2_with fail
  go_loopg [4, 5] s.size (fun k v t wr => ∃ L, k = s.size - lenA L ∧ Mid s.data.toList L ∧ t = .int .i64 (lenA L) ∧ wr.ownsRow w.heap.size 9 1 v L.length (L.map str) ∧ Fr [] w wr)
  case atStart => exact ⟨[], rfl, Mid.nil _, rfl, HW.out, Fr.refl _ _⟩
  case round =>
    obtain ⟨L, rfl, hM, rfl, hO, hF⟩ := hrel
    have O := Lib.hid hO
    have F := Lib.hid hF
    have M := Lib.hid hM
    obtain ⟨a, c, rfl⟩ := own_slice hO
    have hle : lenA L ≤ s.size := hM.le
    clear hO hF hM
    have hdl : (s.extract (lenA L) s.size).data.toList = s.data.toList.drop (lenA L) := drop_bytes s _
    have hds : (s.extract (lenA L) s.size).size ≤ 140737488351232 := by
      have : (s.extract (lenA L) s.size).data.toList.length = s.data.toList.length - lenA L := by rw [hdl, List.length_drop]
      have h2 : s.data.toList.length = s.size := rfl
      have h3 : (s.extract (lenA L) s.size).data.toList.length = (s.extract (lenA L) s.size).size := rfl
      omega
    have C1 := one_any (s.extract (lenA L) s.size) wr hds
    unfold OneP at C1
    rw [hdl] at C1
    clear hds hdl
    go_wp2_with (go_at_call 17; refine C1.mono ?_)
    rintro e w2 ⟨r, rfl, hr, hF2⟩
    have O2 := Lib.hid (own_fr O.out hF2)
    have F2 := Lib.hid (F.out.trans hF2 (by simp))
    have F3 := Lib.hid hF2
    clear C1 hF2
    by_cases h1 : oneB (s.data.toList.drop (lenA L)) = true
    · have hr2 := hr h1
      subst hr2
      have hM2 := M.out.snoc h1
      have M2 := Lib.hid hM2
      have hle2 := hM2.le
      rw [lenA_snoc] at hle2
      have hll := len_le L
      have H1 := Lib.hid h1
      rw [h1]
      clear hr h1 hM2
      generalize recL (s.data.toList.drop (lenA L)) = r at M2 hle2 ⊢
      have hsz : s.data.toList.length = s.size := rfl
      have hO3 : (w2.alloc (.cells #[.string ⟨r.toArray⟩] 9)).ownsRow w.heap.size 9 1 (.slice a L.length c) L.length (L.map str) := own_fr O2.out (Fr.alloc (Fr.refl [] w2) _)
      have hnew : ∀ j u, [str r][j]? = some u → (w2.alloc (.cells #[.string ⟨r.toArray⟩] 9)).cell? ((⟨w2.heap.size, 0, none⟩ : Addr).add j) = some u := by
        intro j u hj
        rw [Addr_add, Nat.zero_add]
        have := (Row.new w2 [str r] 9).cell j
        exact this.trans hj
      have O3 := Lib.hid hO3
      have NW := Lib.hid hnew
      have hwsz := F2.out.size
      clear hO3 hnew
      go_wp2_with (at_builtin; refine wpList_append_own _ rfl _ _ 26 rfl w.heap.size 9 i0 (.string ⟨#[]⟩) 1 16 Try.underlying26 HI.out HZ0.out HZ1.out HZ2.out rfl (by decide) _ _ _ rfl O3.out ⟨w2.heap.size, 0, none⟩ 1 1 [str r] rfl rfl NW.out (by simp [str, Value.oneCell']) ?c3 ?c4 ?c5 ?_)
      case c3 => unfold maxLen; omega
      case c4 => omega
      case c5 => simp; omega
      intro v' w3 hown' hgrow _
      have hF4 : Fr [] w w3 := by
        have h1 := (F2.out.alloc (.cells #[.string ⟨r.toArray⟩] 9))
        have h2 := Fr.of_grown hgrow [w.heap.size]
        refine h1.trans (Fr.of_grown hgrow ((Value.ownBlock (.slice a L.length c)).toList) (fun k hk => .inl (by simp [hk]))) ?_
        intro k hk
        simp only [Option.mem_toList] at hk
        exact .inr (O3.out.lt k hk).1
      have F4 := Lib.hid hF4
      have hown2 : w3.ownsRow w.heap.size 9 1 v' (L ++ [r]).length ((L ++ [r]).map str) := by
        rw [List.length_append, List.map_append]
        exact hown'
      have O4 := Lib.hid hown2
      clear hown' hgrow hF4 hown2
      go_wp2_with fail
      go_roundg (s.size - lenA (L ++ [r]))
      case measure => rw [lenA_snoc]; omega
      case rel => exact ⟨L ++ [r], rfl, M2.out, by rw [lenA_snoc]; rfl, O4.out, F4.out⟩
    · have h1 : oneB (s.data.toList.drop (lenA L)) = false := by simpa using h1
      have hlast := M.out.last h1
      rw [h1]
      clear hr
      go_wp2_with fail
      go_ret2
      refine ⟨_, by rw [hlast]; rfl, ?_, F2.out⟩
      rw [hlast]
      exact O2.out
end Go.Proofs.Ytghahdddjpofdaa
