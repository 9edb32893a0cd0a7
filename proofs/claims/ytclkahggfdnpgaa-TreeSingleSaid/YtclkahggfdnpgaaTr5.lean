/- The tree: an instance's graph, its marking, its depth; all done; the slack. -/
import Derived.Test.YtclkahggfdnpgaaTr4
import Derived.Deep.RegionHeldLaw
set_option linter.unusedVariables false
set_option linter.unusedSimpArgs false
namespace Go.Proofs.Ytclkahggfdnpgaa
open Go.RowKit
theorem cell_fr' {w w' : World} {p : Addr} {v : Value} (h : w.cell? p = some v) (f : Fr [] w w') : w'.cell? p = some v := by
  rw [World.cell?_of_block (f.block p.block (World.block_lt_of_cell? w _ h) (by simp))]; exact h
theorem flat_any (tb hi : Nat) (T : TreeD) (x : InsD) (f : FlatD) (w : World) (h : TreeAt w tb hi T) (hx : x ∈ T.L) (ht : x.tp < T.Fs.length) (hf : T.Fs.getD x.tp default = f) :
    Calls Try.prog 77 #[.pointer (some ⟨tb, 0, none⟩), x.ptr] w fun e w' => e = .returned f.val ∧ Fr [] w w' := by
  have c0 : w.cell? ⟨tb, 0, none⟩ = some (.slice T.ta T.Fs.length T.tc) := h.head.cell 0
  have x1 : w.cell? ⟨x.b, 1, none⟩ = some (.int .i64 x.tp) := h.cellI hx 1
  obtain ⟨gt, ot, ha, hgt, _, _, hc⟩ := h.tmpl.rows.at_ (by omega)
  have y0 : w.cell? ⟨gt, ot + x.tp * 2, none⟩ = some (.slice f.ea f.en f.ec) := hc x.tp ht 0 _ (by rw [hf]; rfl)
  have y1 : w.cell? ⟨gt, ot + x.tp * 2 + 1, none⟩ = some (.slice f.ta f.tn f.tc) := hc x.tp ht 1 _ (by rw [hf]; rfl)
  rw [ha] at c0
  have hFs : T.Fs.length ≤ T.Fs.length := Nat.le_refl _
  generalize T.Fs.length = n at c0 ht
  generalize x.tp = k at x1 y0 y1 ht
  unfold InsD.ptr FlatD.val
  generalize x.b = xb at x1
  generalize T.tc = tc at c0
  have hr := (Fr.refl [] w).alloc (.cells #[.slice none 0 0, .slice none 0 0] 25)
  have HR := Lib.hid hr
  have l0 := World.block_lt_of_cell? w _ c0
  have l1 := World.block_lt_of_cell? w _ x1
  clear hc ha h hx hf hr hFs
  go_enter Try.func77, Try.ntmps77
  go_wp2_with fail
  go_region_held_law (fun w' => w'.cell? ⟨tb, 0, none⟩ = some (.slice (some ⟨gt, ot, none⟩) n tc) ∧ w'.cell? ⟨xb, 1, none⟩ = some (.int .i64 k) ∧ w'.cell? ⟨gt, ot + k * 2, none⟩ = some (.slice f.ea f.en f.ec) ∧ w'.cell? ⟨gt, ot + k * 2 + 1, none⟩ = some (.slice f.ta f.tn f.tc)) (go_keep) (fail)
  go_wp2_with fail
  (try simp only [Exit.inBlock, Exit.then])
  refine bodyPost_ret (results_cell_row rfl _ _ w.heap.size 25 #[.slice f.ea f.en f.ec, .slice f.ta f.tn f.tc] (0, 0) _ rfl (Row.new w [.slice f.ea f.en f.ec, .slice f.ta f.tn f.tc] 25).drew Try.underlying25 rfl (by kernel_rfl)) rfl ?_
  exact ⟨rfl, ((Fr.refl [] w).alloc _).drew⟩
/-- A tree as it comes to be. -/
structure Good (T : TreeD) : Prop where
  tp : ∀ x ∈ T.L, x.tp < T.Fs.length
  fit : ∀ x ∈ T.L, fitsB (T.Fs.getD x.tp default).en x.m = true
  en : ∀ f ∈ T.Fs, f.en ≤ 10
  srt : (T.L.map (·.id)).Pairwise (· < ·)
  lo : ∀ x ∈ T.L, 0 ≤ x.id ∧ x.id < T.next
  root : ∃ x r, T.L = x :: r ∧ x.id = 0 ∧ x.par = -1 ∧ x.ev = -1 ∧ x.tp = 0
  par : ∀ x ∈ T.L, x.id ≠ 0 → 0 ≤ x.par ∧ x.par < x.id ∧ 0 ≤ x.ev ∧ ∃ y ∈ T.L, y.id = x.par ∧ ∃ c, T.C ((y.tp : Int), x.ev) = some c ∧ c.to_ = x.tp
  calls : ∀ k c, T.C k = some c → k = (c.of_, c.at_) ∧ 0 ≤ c.of_ ∧ c.of_ < c.to_ ∧ c.to_ < T.Fs.length ∧ 0 ≤ c.at_
  tmpls : T.Fs.length ≤ 8
  next : T.next ≤ 900
theorem Good.len {T : TreeD} (h : Good T) {x : InsD} (hx : x ∈ T.L) : x.m.length ≤ 10 := by
  have h1 := h.fit x hx
  have h2 := h.tp x hx
  have h3 : T.Fs.getD x.tp default ∈ T.Fs := getD_memD _ _ h2
  unfold fitsB at h1
  rw [Bool.and_eq_true, decide_eq_true_iff] at h1
  rw [h1.1]
  exact h.en _ h3
theorem Good.parlt {T : TreeD} (h : Good T) {x : InsD} (hx : x ∈ T.L) : -1 ≤ x.par ∧ x.par < x.id := by
  by_cases h0 : x.id = 0
  · obtain ⟨y, r, hL, h1, h2, _⟩ := h.root
    rw [hL] at hx
    rcases List.mem_cons.1 hx with rfl | hx
    · omega
    · have hs := h.srt
      rw [hL, List.map_cons, List.pairwise_cons] at hs
      have := hs.1 x.id (List.mem_map.2 ⟨x, hx, rfl⟩)
      omega
  · have := h.par x hx h0
    omega
theorem Good.uniq {T : TreeD} (h : Good T) {x y : InsD} (hx : x ∈ T.L) (hy : y ∈ T.L) (he : x.id = y.id) : x = y := by
  have hs := h.srt
  generalize T.L = L at hx hy hs
  induction L with
  | nil => cases hx
  | cons z L ih =>
    rw [List.map_cons, List.pairwise_cons] at hs
    rcases List.mem_cons.1 hx with rfl | hx' <;> rcases List.mem_cons.1 hy with rfl | hy'
    · rfl
    · have := hs.1 y.id (List.mem_map.2 ⟨y, hy', rfl⟩); omega
    · have := hs.1 x.id (List.mem_map.2 ⟨x, hx', rfl⟩); omega
    · exact ih hx' hy' hs.2
/-- How deep an instance is; -1: it does not live. -/
inductive DepthI (L : List InsD) : Int → Int → Prop where
  | out {id : Int} : (∀ x ∈ L, x.id ≠ id) → DepthI L id (-1)
  | up {x : InsD} {d : Int} : x ∈ L → DepthI L x.par d → DepthI L x.id (d + 1)
def nilP : Value → Bool
  | .pointer none => true
  | _ => false
def DepthP (T : TreeD) (id : Int) (w : World) (e : Ending) (w' : World) : Prop := ∃ d, e = .returned (.int .i64 d) ∧ DepthI T.L id d ∧ Fr [] w w'
theorem depth_any (tb hi : Nat) (T : TreeD) (id : Int) (w : World) (h : TreeAt w tb hi T) (hg : Good T) :
    Calls Try.prog 52 #[.pointer (some ⟨tb, 0, none⟩), .int .i64 id] w (DepthP T id w) := by
  have C1 := of_any tb hi T id w h
  have HH := Lib.hid h
  have HG := Lib.hid hg
  clear h hg
  go_enter Try.func52, Try.ntmps52
  go_wp2_with fail
  refine C1.mono ?_
  rintro e w1 ⟨v, rfl, hv, hF⟩
  have HV := Lib.hid hv
  have F1 := Lib.hid hF
  clear hv hF C1
  go_wp2_with fail
  go_loopg [5, 6] (if nilP v then 0 else (id + 1).toNat) (fun k nv pv wr => ∃ n i : Int, nv = .int .i64 n ∧ k = (if nilP pv then 0 else (i + 1).toNat) ∧ OfAt T.L i pv ∧ (∀ d, DepthI T.L i d → DepthI T.L id (n + 1 + d)) ∧ -1 ≤ n ∧ (n = -1 ∨ (-1 ≤ i ∧ n + i ≤ 1000)) ∧ Fr [] w wr)
  case atStart => exact ⟨-1, id, rfl, rfl, HV.out, fun d hd => by rw [show -1 + 1 + d = d by omega]; exact hd, by omega, .inl rfl, F1.out⟩
  case round =>
    obtain ⟨n, i, rfl, rfl, hv, hd, hn, hni, hF⟩ := hrel
    have F := Lib.hid hF
    have HD := Lib.hid hd
    clear hF hd
    rcases hv with ⟨rfl, hv⟩ | ⟨j, hj, rfl, hid⟩
    · have HNo := Lib.hid hv
      clear hv
      go_wp2_with fail
      go_ret
      refine ⟨n, rfl, ?_, F.out⟩
      have := HD.out _ (.out HNo.out)
      rw [show n + 1 + -1 = n by omega] at this
      exact this
    · have hm := getD_memD T.L j hj
      have hp := HG.out.parlt hm
      have hl := HG.out.lo _ hm
      have hnx := HG.out.next
      have x3 : w.cell? ⟨(T.L.getD j default).b, 3, none⟩ = some (.int .i64 (T.L.getD j default).par) := HH.out.cellI hm 3
      have HM := Lib.hid hm
      obtain ⟨x, hx⟩ : ∃ x, T.L.getD j default = x := ⟨_, rfl⟩
      rw [hx] at HM hid hp hl x3
      have C2 := of_any tb hi T x.par wr (HH.out.fr F.out)
      have x3' : wr.cell? ⟨x.b, 3, none⟩ = some (.int .i64 x.par) := cell_fr' x3 F.out
      rw [hx] at *
      have HI := Lib.hid hid
      have hid2 : x.id ≤ i ∧ i ≤ x.id := by omega
      have hnx2 : x.id < 900 := by omega
      have hnb : n ≤ 1000 := by omega
      unfold InsD.ptr
      clear hm hid hj x3 hx hnx
      go_wp2_with fail
      refine C2.mono ?_
      rintro e w2 ⟨v2, rfl, hv2, hF2⟩
      have HV2 := Lib.hid hv2
      have F2 := Lib.hid (F.out.trans hF2 (by simp))
      clear hv2 hF2 C2
      go_wp2_with fail
      go_roundg (if nilP v2 then 0 else (x.par + 1).toNat)
      case measure =>
        split <;> omega
      case rel =>
        refine ⟨n + 1, x.par, rfl, rfl, HV2.out, fun d hd => ?_, by omega, .inr (by omega), F2.out⟩
        have := HD.out (d + 1) (by rw [← HI.out]; exact .up HM.out hd)
        rw [show n + 1 + (d + 1) = n + 1 + 1 + d by omega] at this
        exact this
end Go.Proofs.Ytclkahggfdnpgaa
