/- Of a call that isn't Many one child lives at most: the walk. (Printed by gensingle.py.) -/
import Derived.Test.YtclkahggfdnpgaaTr21
import Derived.Test.YtclkahggfdnpgaaTrM
import Derived.Test.YtclkahggfdnpgaaRegL
import Derived.Test.YtclkahggfdnpgaaRk2
set_option linter.unusedVariables false
set_option linter.unusedSimpArgs false
namespace Go.Proofs.Ytclkahggfdnpgaa
open Go.RowKit
set_option maxRecDepth 100000 in
set_option maxHeartbeats 8000000 in
theorem treeSingle_walk (p : ProgD) (a1 : Option Addr) (len1 cap1 : Nat) (L : List ActD) (W : World) (hp : ProgIn W p) (hL : ActsAt W a1 len1 L) :
    Calls Try.prog 11 #[p.val, .slice a1 len1 cap1] W fun e w' => e = .returned (.bool true) ∧ Below W.heap.size W w' := by
  have hr := (Fr.refl [] W).alloc (.cells #[.slice p.pa p.Fs.length p.pc, .slice p.ca p.Cs.length p.cc] 62)
  have HR := Lib.hid hr
  have RB := Lib.hid (Row.new W [.slice p.pa p.Fs.length p.pc, .slice p.ca p.Cs.length p.cc] 62)
  have HP := Lib.hid hp
  have HL := Lib.hid hL
  clear hp hL hr
  obtain ⟨pn, hpn⟩ : ∃ n, n = p.Fs.length := ⟨_, rfl⟩
  obtain ⟨cn, hcn⟩ : ∃ n, n = p.Cs.length := ⟨_, rfl⟩
  have hval : p.val = .agg #[.slice p.pa pn p.pc, .slice p.ca cn p.cc] := by rw [hpn, hcn]; rfl
  have HVAL := Lib.hid hval
  rw [hval]
  rw [← hpn, ← hcn] at HR RB
  have HCN := Lib.hid hcn
  clear hval hpn hcn
  go_enter Try.func11, Try.ntmps11
  go_wp2_with fail
  refine (awake19_any _).mono ?_
  rintro e w1 ⟨rfl, hF1⟩
  have F1 := Lib.hid (HR.out.trans hF1 (by simp))
  have RB1 := Lib.hid (RB.out.fr hF1 (by simp))
  have x0 := RB1.out.cell 0
  have x1 := RB1.out.cell 1
  clear hF1
  have C2 := large19_any p w1 (HP.out.fr F1.out)
  rw [HVAL.out] at C2
  go_wp2_with fail
  refine C2.mono ?_
  rintro e w2 ⟨rfl, hF2⟩
  have F2 := Lib.hid (F1.out.trans hF2 (by simp))
  have RB2 := Lib.hid (RB1.out.fr hF2 (by simp))
  have y0 := RB2.out.cell 0
  have y1 := RB2.out.cell 1
  clear hF2 C2 x0 x1 RB RB1 F1 HR
  by_cases hl : bigP p = true
  · rw [hl]
    go_wp2_with fail
    go_ret
    exact ⟨rfl, F2.out.nil_below⟩
  have hl : bigP p = false := by simpa using hl
  have PA := Lib.hid (HP.out.at_ hl)
  rw [hl]
  clear hl
  have C3 := new_is p w2 (PA.out.1.fr F2.out) PA.out.2
  rw [HVAL.out] at C3
  go_wp2_with fail
  refine C3.mono ?_
  rintro e w3 (⟨hm, rfl, hF⟩ | ⟨_, tb, hi, S0, rfl, hIS, hG, hS, hF⟩)
  · have F3 := Lib.hid (F2.out.trans hF (by simp))
    have RB3 := Lib.hid (RB2.out.fr hF (by simp))
    have z0 := RB3.out.cell 0
    have z1 := RB3.out.cell 1
    have C4 := may_any p w3 (PA.out.1.fr F3.out)
    rw [HVAL.out, hm] at C4
    clear hF C3 y0 y1 hm
    go_wp2_with fail
    refine C4.mono ?_
    rintro e w4 ⟨rfl, hF⟩
    have F4 := Lib.hid (F3.out.trans hF (by simp))
    clear hF C4
    go_wp2_with fail
    go_ret
    exact ⟨rfl, F4.out.nil_below⟩
  have F3 := Lib.hid (F2.out.trans hF (by simp))
  have RB3 := Lib.hid (RB2.out.fr hF (by simp))
  have IS0 := Lib.hid hIS
  have G := Lib.hid hG
  have HS0 := Lib.hid (fun y hy => Nat.le_trans F2.out.size (hS y hy) : ∀ y ∈ S0, W.heap.size ≤ y)
  clear hIS hG hS hF C3 y0 y1
  have SI0 := Lib.hid (single0 (Fs := p.Fs) (Cs := p.Cs))
  have PC0 := Lib.hid (show (newPT p.Fs p.Cs).C = callsM p.Cs p.Cs.length from rfl)
  generalize newPT p.Fs p.Cs = P0 at IS0 G SI0 PC0
  have hmk1 : ∀ w, (Instr.makeMap 95 none).run Try.prog w = .ok (.map (some w.heap.size)) (w.alloc (.map #[] 0)) := fun w => rfl
  have hmk2 : ∀ w, (Instr.makeMap 99 none).run Try.prog w = .ok (.map (some w.heap.size)) (w.alloc (.map #[] 0)) := fun w => rfl
  have hmk3 : ∀ w, (Instr.makeMap 100 none).run Try.prog w = .ok (.map (some w.heap.size)) (w.alloc (.map #[] 0)) := fun w => rfl
  have hmk4 : ∀ w, (Instr.makeMap 101 none).run Try.prog w = .ok (.map (some w.heap.size)) (w.alloc (.map #[] 0)) := fun w => rfl
  have HTB := Lib.hid (show W.heap.size ≤ tb ∧ tb < w3.heap.size from ⟨HS0.out tb IS0.out.tb_mem, IS0.out.lt tb IS0.out.tb_mem⟩)
  have r1 := RB3.out.cell 1
  have r0 := RB3.out.cell 0
  have hlb := RB3.out.lt
  have hcn20 : cn ≤ 20 := by rw [HCN.out]; exact PA.out.1.few2
  have hF3A : Fr [] w3 (w3.alloc (.map #[] 0)) := (Fr.refl [] w3).alloc _
  have CM0 := Lib.hid (MapA.made (K := pairK) (val := CallD.val) w3)
  have FA := Lib.hid (F3.out.trans hF3A (by simp))
  have ISA := Lib.hid (IS0.out.fr hF3A)
  have HS3 := Lib.hid (fun y hy => IS0.out.lt y hy : ∀ y ∈ S0, y < w3.heap.size)
  clear hF3A
  go_wp2_with fail
  obtain ⟨ca, hca0⟩ : ∃ a, a = p.ca := ⟨_, rfl⟩
  rw [← hca0] at RB3 r1 ⊢
  have HCA := Lib.hid hca0
  clear hca0 r0 r1
  obtain ⟨cb, hcb⟩ : ∃ c, w3.heap.size = c := ⟨_, rfl⟩
  obtain ⟨wA, hwA⟩ : ∃ v, w3.alloc (.map #[] 0) = v := ⟨_, rfl⟩
  have hszA : wA.heap.size = cb + 1 := by rw [← hwA, ← hcb]; simp
  rw [hwA] at CM0 FA ISA ⊢
  rw [hcb] at CM0 HTB HS3 hlb ⊢
  have HSZA := Lib.hid hszA
  have HLB := Lib.hid hlb
  clear hcb hwA hszA hlb
  go_loopg [9, 44] cn (fun k u9 i wr => ∃ q : Nat, k = cn - q ∧ q ≤ cn ∧ i = .int .i64 q ∧ MapA pairK CallD.val wr cb q (callsM p.Cs q) ∧ Fr [cb] wA wr)
  case atStart => exact ⟨0, rfl, by omega, rfl, CM0.out, Fr.refl _ _⟩
  case round =>
    obtain ⟨q, rfl, hq, rfl, hM, hF⟩ := hrel
    have MQ := Lib.hid hM
    have FQ := Lib.hid hF
    have FWQ := Lib.hid (FA.out.trans hF (fun y hy => by simp at hy; have := HTB.out; exact .inr (by omega)))
    clear hM hF
    by_cases hqm : q < cn
    · have hd2 : decide (q < cn) = true := decide_eq_true hqm
      obtain ⟨gt, ot, hca, hgt, hct⟩ := (PA.out.1.calls.fr FWQ.out).at_ (by rw [← HCN.out]; omega)
      have hcx := hct q (by rw [← HCN.out]; exact hqm)
      obtain ⟨d, hdd⟩ : ∃ d, p.Cs.getD q default = d := ⟨_, rfl⟩
      rw [hdd] at hcx
      have HQ := Lib.hid hdd
      have hc' : ∀ k v, ([.int .i64 d.of_, .int .i64 d.at_, .int .i64 d.to_, .bool d.many] : List Value)[k]? = some v → wr.cell? ⟨gt, ot + q * 4 + k, none⟩ = some v := hcx
      have HC := Lib.hid hc'
      have hca2 := HCA.out.trans hca
      subst hca2
      clear hcx hc' hct hdd hca hgt
      go_wp2_with (first | ((with_reducible refine wpList_load_at rfl 97 (.tmp 46) rfl agg97 4 size97 gt (ot + q * 4) [.int .i64 d.of_, .int .i64 d.at_, .int .i64 d.to_, .bool d.many] rfl HC.out ?_ ?_); exact rfl) | ((with_reducible refine wpList_var_agg rfl rfl 97 (.tmp 9) (.tmp 47) rfl rfl 4 zero97 [.int .i64 d.of_, .int .i64 d.at_, .int .i64 d.to_, .bool d.many] rfl ?_ ?_ ?_ ?_); (intro u hu; simp at hu; rcases hu with rfl | rfl | rfl | rfl <;> rfl); exact rfl; exact rfl))
      intro w4 hr4 hs4 hf4
      have x0 := hr4.cell 0
      have x1 := hr4.cell 1
      have x2 := hr4.cell 2
      have x3 := hr4.cell 3
      obtain ⟨w5, hrun, hm5, hf5⟩ := (MQ.out.fr hf4 (by simp)).store (t := 95) Try.underlying98 Try.underlying95 d.key d
      have hrun' : (Instr.mapUpdate 95 (.map (some cb)) (.agg #[.int .i64 d.of_, .int .i64 d.at_]) (.agg #[.int .i64 d.of_, .int .i64 d.at_, .int .i64 d.to_, .bool d.many])).run Try.prog w4 = .ok () w5 := hrun
      have M5 := Lib.hid hm5
      have F5 := Lib.hid ((FQ.out.trans hf4 (by simp)).trans hf5 (fun y hy => .inl hy))
      have e : callsM p.Cs (q + 1) = fun y => if y = d.key then some d else callsM p.Cs q y := by rw [← HQ.out]; rfl
      rw [← e] at M5
      clear hr4 hs4 hf4 hrun hm5 hf5 e
      go_wp2_with fail
      go_roundg (cn - (q + 1))
      case measure => omega
      case rel => exact ⟨q + 1, rfl, by omega, rfl, M5.out, F5.out⟩
    · have hd2 : decide (q < cn) = false := decide_eq_false hqm
      have hqe : q = cn := by omega
      subst hqe
      have MC := Lib.hid MQ.out
      have ISB := Lib.hid (ISA.out.frM FQ.out (Mapped.one CM0.out (by have := HTB.out; omega)))
      have hsB : cb + 1 ≤ wr.heap.size := by have := FQ.out.size; have := HSZA.out; omega
      have T1 := MapA.made (K := intK) (val := iv) wr
      obtain ⟨wi, hrunI, hmI, hfI⟩ := T1.store (t := 99) Try.underlying3 Try.underlying99 0 0
      have hrunI' : (Instr.mapUpdate 99 (.map (some wr.heap.size)) (.int .i64 0) (.int .i64 0)).run Try.prog (wr.alloc (.map #[] 0)) = .ok () wi := hrunI
      have X1 := MapS.made (K := pairK) (val := iv) wi
      have Y1 := MapA.made (K := intK) (val := pairV) (wi.alloc (.map #[] 0))
      have hsI : wr.heap.size + 1 ≤ wi.heap.size := by have := hfI.size; simp at this; omega
      have hsJ : (wi.alloc (.map #[] 0)).heap.size = wi.heap.size + 1 := by simp
      have f1 : Fr [wr.heap.size] wr wi := (((Fr.refl [] wr).alloc (.map #[] 0)).mono (by simp)).trans hfI (fun y hy => .inl hy)
      have f2 : Fr [] wi ((wi.alloc (.map #[] 0)).alloc (.map #[] 0)) := ((Fr.refl [] wi).alloc _).alloc _
      have f3 : Fr [] (wi.alloc (.map #[] 0)) ((wi.alloc (.map #[] 0)).alloc (.map #[] 0)) := (Fr.refl [] _).alloc _
      have ISC := Lib.hid ((ISB.out.frM' ((Fr.refl [] wr).alloc (.map #[] 0)) hfI T1 (by have := HTB.out; omega)).fr f2)
      have FC := Lib.hid ((FWQ.out.trans f1 (fun y hy => by simp at hy; have := FWQ.out.size; exact .inr (by omega))).trans f2 (by simp))
      have hNS : ∀ z, cb ≤ z → z ∉ S0 := fun z hz hzS => by have := HS3.out z hzS; omega
      have MP := Lib.hid (show Maps4 ((wi.alloc (.map #[] 0)).alloc (.map #[] 0)) tb cb wr.heap.size wi.heap.size (wi.alloc (.map #[] 0)).heap.size S0 p.Cs (fun y => if y = 0 then some 0 else none) (fun _ => none) (fun _ => none) from
        ⟨⟨_, by have := (MC.out.fr f1 (by simp; omega)).fr f2 (by simp); rw [HCN.out] at this; exact this⟩, ⟨_, hmI.fr f2 (by simp)⟩, ⟨_, X1.fr f3 (by simp)⟩, ⟨_, Y1⟩, by have := HTB.out; omega, ⟨by omega, by omega, by omega⟩, hNS _ (by omega), hNS _ (by omega), hNS _ (by omega), hNS _ (by omega)⟩)
      rw [hsJ] at MP
      clear T1 X1 Y1 hmI hfI hrunI f1 f2 f3 hNS hsI hsJ hsB
      go_wp2_with fail
      obtain ⟨wz, hwz⟩ : ∃ v, (wi.alloc (.map #[] 0)).alloc (.map #[] 0) = v := ⟨_, rfl⟩
      rw [hwz] at MP FC ISC ⊢
      obtain ⟨mb, hmb⟩ : ∃ v, wr.heap.size = v := ⟨_, rfl⟩
      obtain ⟨xb, hxb⟩ : ∃ v, wi.heap.size = v := ⟨_, rfl⟩
      rw [hmb, hxb] at MP
      rw [hmb, hxb]
      obtain ⟨fb, hfb⟩ : ∃ v, xb + 1 = v := ⟨_, rfl⟩
      rw [hfb] at MP ⊢
      clear hwz hmb hxb hfb hrunI'
      obtain ⟨N, hN⟩ : ∃ N, N = min len1 80 := ⟨_, rfl⟩
      have hN80 : N ≤ 80 := by omega
      have hNl : N ≤ len1 := by omega
      have HN := Lib.hid hN
      have hWtb := HTB.out.1
      clear hN hmk1 hmk2 hmk3 hmk4 hcn20 HLB
      go_loopg [13, 14, 21, 23] N (fun k i u14 u21 u23 wr => ∃ (j : Nat) (S : List Nat) (P : PT) (tm : Int → Option Int) (ch : Int × Int → Option Int) (fm : Int → Option (Int × Int)), k = N - j ∧ j ≤ N ∧ i = .int .i64 j ∧ TreeIs wr tb hi S P ∧ GoodP P (1 + j) ∧ P.C = callsM p.Cs p.Cs.length ∧ SingI P tm ch fm ∧ Maps4 wr tb cb mb xb fb S p.Cs tm ch fm ∧ (∀ y ∈ S, W.heap.size ≤ y) ∧ Fr [] W wr)
      case atStart => exact ⟨0, S0, P0, _, _, _, rfl, by omega, rfl, ISC.out, G.out, PC0.out, SI0.out, MP.out, HS0.out, FC.out⟩
      case round =>
        obtain ⟨j, S, P, tm, ch, fm, rfl, hj, rfl, hIS, hG, hC, hSI, hMP, hS, hF⟩ := hrel
        have IS := Lib.hid hIS
        have GP := Lib.hid (hG.mono (show 1 + j ≤ 81 by omega))
        have GJ := Lib.hid hG
        have PC := Lib.hid hC
        have SI := Lib.hid hSI
        have MP := Lib.hid hMP
        have HS := Lib.hid hS
        have F := Lib.hid hF
        clear hIS hG hC hSI hMP hS hF
        by_cases hjn : j < N
        · have d1 : decide (j < len1) = true := decide_eq_true (by omega)
          have d2 : decide ((j : Int) < 80) = true := decide_eq_true (by omega)
          obtain ⟨gl, ol, ha, hgl, hcl⟩ := (HL.out.rows.fr F.out).at_ (by omega)
          have hcx := hcl j (by omega)
          obtain ⟨x, hx⟩ : ∃ x, L.getD j default = x := ⟨_, rfl⟩
          rw [hx] at hcx
          obtain ⟨xk, xi, xa⟩ := x
          have hc' : ∀ k v, ([.int .i64 xk, .int .i64 xi, .int .i64 xa] : List Value)[k]? = some v → wr.cell? ⟨gl, ol + j * 3 + k, none⟩ = some v := hcx
          have HC2 := Lib.hid hc'
          subst ha
          clear hcl hcx hc' hx hgl
          go_wp2_with (first | ((with_reducible refine wpList_load_at rfl 77 (.tmp 72) rfl agg77 3 size77 gl (ol + j * 3) [.int .i64 xk, .int .i64 xi, .int .i64 xa] rfl HC2.out ?_ ?_); exact rfl) | ((with_reducible refine wpList_var_agg rfl rfl 77 (.tmp 14) (.tmp 73) rfl rfl 3 zero77 [.int .i64 xk, .int .i64 xi, .int .i64 xa] rfl ?_ ?_ ?_ ?_); (intro u hu; simp at hu; rcases hu with rfl | rfl | rfl <;> rfl); exact rfl; exact rfl))
          intro w5 hr5 hs5 hf5
          have F5 := Lib.hid (F.out.trans hf5 (by simp))
          have IS5 := Lib.hid (IS.out.fr hf5)
          have MP5 := Lib.hid (MP.out.fr hf5)
          have TX5 := Lib.hid (Apart.mk1 IS.out hf5 (Nat.le_refl _) (by omega))
          have t0 := hr5.cell 0
          have t1 := hr5.cell 1
          have t2 := hr5.cell 2
          obtain ⟨tx, htx⟩ : ∃ b, wr.heap.size = b := ⟨_, rfl⟩
          rw [htx] at t0 t1 t2 TX5 ⊢
          have T05 := Lib.hid t0
          have T15 := Lib.hid t1
          have T25 := Lib.hid t2
          have HC3 := Lib.hid (actF_C P xk xi xa)
          have G' := Lib.hid ((GJ.out.actF xk xi xa).mono (show 1 + j + 1 ≤ 82 by omega))
          have GJ' := Lib.hid (GJ.out.actF xk xi xa)
          obtain ⟨q, hq⟩ : ∃ q, actF P xk xi xa = q := ⟨_, rfl⟩
          have HQ := Lib.hid hq
          have CA := Lib.hid (fun w' (h : TreeIs w' tb hi S P) => act_is h GP.out (by omega) xk xi xa)
          rw [hq] at CA HC3 G' GJ'
          clear hr5 hs5 hf5 htx hq t0 t1 t2
          by_cases hE : q.2.1 = 0
          · by_cases hk01 : xk = 0 ∨ xk = 1
            · have HQ2 := Lib.hid (show q = doF P xi xa by
                rw [← HQ.out]
                unfold actF
                rw [if_pos hk01])
              rcases doF_zero (P := P) (id := xi) (at' := xa) (by rw [← HQ2.out]; exact hE) with ⟨x, ho, hr, hC, he⟩ | ⟨x, cq, ho, hr, hC, hm, he⟩
              · clear hE HC3
                obtain ⟨hxm, hxid⟩ := of_mem ho
                have hMf := do_fits (P.f x) x.m xa.toNat (GP.out.fit x hxm)
                have hxa : 0 ≤ xa ∧ xa < x.m.length := by unfold hasP at hr; simpa using hr
                have hage := do_age (P.f x) x.m xa.toNat xa.toNat (by omega)
                rw [if_pos rfl] at hage
                have hMl : (doM (P.f x) x.m xa.toNat).length = x.m.length := by rw [fits_len hMf, fits_len (GP.out.fit x hxm)]
                have htv := SI.out.tp x hxm
                rw [hxid] at htv
                rw [PC.out] at hC
                obtain ⟨M, hM⟩ : ∃ M, doM (P.f x) x.m xa.toNat = M := ⟨_, rfl⟩
                rw [hM] at he hage hMl
                have SI' := Lib.hid (show SingI (P.setm xi M) tm ch fm from SI.out.mapL (PI.setm xi M) (setm_same _ _))
                have OF2 := Lib.hid (show ∃ z, (P.setm xi M).of xi = some z ∧ z.m = M by rw [of_setm, ho]; exact ⟨_, rfl, rfl⟩)
                have HC4 := Lib.hid (show (P.setm xi M).C = P.C from rfl)
                have hq2 : q = (-1, 0, P.setm xi M) := by rw [HQ2.out, he]
                rw [hq2] at CA G' GJ'
                simp only at CA G' GJ'
                have GJ2 := GJ'
                obtain ⟨P', hP'⟩ : ∃ P', P.setm xi M = P' := ⟨_, rfl⟩
                rw [hP'] at CA G' GJ2 SI' OF2 HC4
                obtain ⟨an, han⟩ : ∃ n : Nat, xa = (n : Int) := Int.eq_ofNat_of_zero_le hxa.1
                subst han
                rw [Int.toNat_natCast] at hage
                obtain ⟨ml, hml⟩ : ∃ n, M.length = n := ⟨_, rfl⟩
                have han : an < ml := by rw [← hml, hMl]; omega
                have HXL := Lib.hid hml
                have AGE := Lib.hid hage
                obtain ⟨tv, htv2⟩ : ∃ v : Int, (x.tp : Int) = v := ⟨_, rfl⟩
                rw [htv2] at hC htv
                have HTV := Lib.hid htv
                have HCV := Lib.hid hC
                obtain ⟨cq, hcq⟩ : ∃ c : CallD, (⟨0, 0, 0, false⟩ : CallD) = c := ⟨_, rfl⟩
                have HCQ := Lib.hid hcq
                have e1 : decide (xk ≤ 1) = true := decide_eq_true (by omega)
                have e2 : decide (xk ≥ 0) = true := decide_eq_true (by omega)
                clear hxm hxid hMf hxa hMl htv hC hM hq2 hP' hml hage htv2 ho hr he hk01 hcq GJ'
                have C6 := mark_w IS5.out GP.out (by omega) xi
                have t1 := T15.out
                go_wp2_with fail
                refine C6.mono ?_
                rintro e w6 ⟨aw6, nw6, cw6, bw6, rfl, hF⟩
                have T06 := Lib.hid (cell_fr' T05.out hF)
                have T16 := Lib.hid (cell_fr' T15.out hF)
                have T26 := Lib.hid (cell_fr' T25.out hF)
                have TX6 := Lib.hid (TX5.out.fr hF)
                have F6 := Lib.hid (F5.out.trans hF (by simp))
                have MP6 := Lib.hid (MP5.out.fr hF)
                have IS6 := Lib.hid (IS5.out.fr hF)
                clear hF C6 t1
                have C7 := CA.out w6 IS6.out
                have t0 := T06.out
                have t1 := T16.out
                have t2 := T26.out
                go_wp2_with fail
                refine C7.mono ?_
                rintro e w7 ⟨rfl, S7, hIS, hF, hS⟩
                have IS7 := Lib.hid hIS
                have HS7 := Lib.hid (fun y hy => (by rcases hS y hy with h | h; exact HS.out y h; exact Nat.le_trans F6.out.size h) : ∀ y ∈ S7, W.heap.size ≤ y)
                have F7 := Lib.hid (F6.out.trans hF (fun y hy => .inr (HS.out y hy)))
                have MP7 := Lib.hid (MP6.out.next hF hS)
                have TX7 := Lib.hid (TX6.out.next hF hS)
                have T07 := Lib.hid ((cell_frA TX6.out hF 0).trans T06.out)
                have T17 := Lib.hid ((cell_frA TX6.out hF 1).trans T16.out)
                have T27 := Lib.hid ((cell_frA TX6.out hF 2).trans T26.out)
                clear hIS hF hS C7 t0 t1 t2
                obtain ⟨zz, hz1, hz2⟩ := OF2.out
                have C6 := mark_s IS7.out G'.out (by omega) hz1
                rw [hz2] at C6
                unfold MarkS at C6
                rw [HXL.out] at C6
                have t1 := T17.out
                go_wp2_with fail
                refine C6.mono ?_
                rintro e w8 ⟨aw8, cw8, rfl, hMw, hfw, hF⟩
                have MW8 := Lib.hid hMw
                have AW8 := Lib.hid (Apart.new IS7.out hfw hMw.2.lt)
                have T08 := Lib.hid (cell_fr' T07.out hF)
                have T18 := Lib.hid (cell_fr' T17.out hF)
                have T28 := Lib.hid (cell_fr' T27.out hF)
                have TX8 := Lib.hid (TX7.out.fr hF)
                have F8 := Lib.hid (F7.out.trans hF (by simp))
                have MP8 := Lib.hid (MP7.out.fr hF)
                have IS8 := Lib.hid (IS7.out.fr hF)
                clear hF C6 t1 hMw hfw
                clear hz1 hz2
                have hrT := MP8.out.rdT xi
                rw [HTV.out] at hrT
                have hrC := MP8.out.rdC tv (an : Int)
                rw [HCV.out, show (none : Option CallD).getD ⟨0, 0, 0, false⟩ = cq from HCQ.out, show (none : Option CallD).isSome = false from rfl] at hrC
                unfold CallD.val at hrC
                have t1 := T18.out
                have t2 := T28.out
                go_wp2_with (first | ((with_reducible refine wpList_var_agg rfl rfl 97 (.tmp 21) (.tmp 104) rfl rfl 4 zero97 [.int .i64 cq.of_, .int .i64 cq.at_, .int .i64 cq.to_, .bool cq.many] rfl ?_ ?_ ?_ ?_); (intro u hu; simp at hu; rcases hu with rfl | rfl | rfl | rfl <;> rfl); exact rfl; exact rfl))
                intro w9 hr9 hs9 hf9
                have hF := hf9
                have T09 := Lib.hid (cell_fr' T08.out hF)
                have T19 := Lib.hid (cell_fr' T18.out hF)
                have T29 := Lib.hid (cell_fr' T28.out hF)
                have TX9 := Lib.hid (TX8.out.fr hF)
                have F9 := Lib.hid (F8.out.trans hF (by simp))
                have MP9 := Lib.hid (MP8.out.fr hF)
                have IS9 := Lib.hid (IS8.out.fr hF)
                have u2 := hr9.cell 2
                have u3 := hr9.cell 3
                obtain ⟨ux, hux⟩ : ∃ b, w8.heap.size = b := ⟨_, rfl⟩
                rw [hux] at u2 u3 ⊢
                have U2 := Lib.hid u2
                have U3 := Lib.hid u3
                have F89 := Lib.hid hf9
                clear hr9 hs9 hf9 hF hux u2 u3 t1 t2 hrT hrC
                have t0 := T09.out
                have t2 := T29.out
                obtain ⟨gb, go', rfl, hgb, hgc⟩ := (MW8.out.fr F89.out).2.at_ (by omega)
                have a0 := hgc an han 1 _ rfl
                rw [AGE.out] at a0
                have dm : decide (an < ml) = true := decide_eq_true han
                clear hgb hgc
                go_wp2_with fail
                go_roundg (N - (j + 1))
                case measure => omega
                case rel => exact ⟨j + 1, S7, P', tm, ch, fm, rfl, by omega, rfl, IS9.out, (by rw [show 1 + (j + 1) = 1 + j + 1 by omega]; exact GJ2.out), by rw [HC4.out, PC.out], SI'.out, MP9.out, HS7.out, F9.out⟩
              · clear hE HC3
                obtain ⟨hxm, hxid⟩ := of_mem ho
                have hxi0 : 0 ≤ xi := by rw [← hxid]; exact (GP.out.lo x hxm).1
                have hxin : xi < P.next := by rw [← hxid]; exact (GP.out.lo x hxm).2
                have hxa : 0 ≤ xa ∧ xa < x.m.length := by unfold hasP at hr; simpa using hr
                have htv := SI.out.tp x hxm
                rw [hxid] at htv
                obtain ⟨c1, c2, c3, c4, c5⟩ := GP.out.calls _ _ hC
                rw [PC.out] at hC
                have hcv : 0 ≤ (ch (xi, xa)).getD 0 ∧ (ch (xi, xa)).getD 0 ≤ 40 := by
                  rw [SI.out.ch xi xa hxi0]
                  have h1 : cntP P xi xa ≤ P.L.length := List.length_filter_le _ _
                  have := GP.out.len
                  omega
                have hone : cq.many = true ∨ (ch (xi, xa)).getD 0 = 0 := by
                  rcases hm with h | h
                  · exact .inl h
                  · right
                    rw [SI.out.ch xi xa hxi0, ← kids_cnt hxi0 hxa.1, h]
                    rfl
                have SI' := Lib.hid (SI.out.spawn GP.out (id := xi) (at' := xa) (tq := cq.to_) (by omega) hxin ((P.Fs.getD cq.to_.toNat default).E.map startM))
                have OF2 := Lib.hid (of_push ho ⟨P.next, cq.to_.toNat, (P.Fs.getD cq.to_.toNat default).E.map startM, xi, xa⟩ (P.next + 1))
                have HC4 := Lib.hid (show ({ P with L := P.L ++ [⟨P.next, cq.to_.toNat, (P.Fs.getD cq.to_.toNat default).E.map startM, xi, xa⟩], next := P.next + 1 } : PT).C = P.C from rfl)
                have hq2 : q = ((P.next : Int), 0, { P with L := P.L ++ [⟨P.next, cq.to_.toNat, (P.Fs.getD cq.to_.toNat default).E.map startM, xi, xa⟩], next := P.next + 1 }) := by rw [HQ2.out, he]
                rw [hq2] at CA G' GJ'
                simp only at CA G' GJ'
                obtain ⟨P', hP'⟩ : ∃ P', ({ P with L := P.L ++ [⟨P.next, cq.to_.toNat, (P.Fs.getD cq.to_.toNat default).E.map startM, xi, xa⟩], next := P.next + 1 } : PT) = P' := ⟨_, rfl⟩
                have CA2 : Hid (∀ w', TreeIs w' tb hi S P → Calls Try.prog 60 #[.pointer (some ⟨tb, 0, none⟩), .agg #[.int .i64 xk, .int .i64 xi, .int .i64 xa]] w' fun e w'' => e = .returned (.tuple #[.int .i64 (P.next : Int), .int .i64 0]) ∧ NextI tb hi S w' P' w'') := by rw [← hP']; exact CA
                have G2 : Hid (GoodP P' 82) := by rw [← hP']; exact G'
                have GJ2 : Hid (GoodP P' (1 + j + 1)) := by rw [← hP']; exact GJ'
                rw [hP'] at SI' OF2 HC4
                obtain ⟨cv, hcve⟩ : ∃ v, (ch (xi, xa)).getD 0 = v := ⟨_, rfl⟩
                rw [hcve] at hcv hone SI'
                obtain ⟨cv0, cv40⟩ := hcv
                obtain ⟨pn', hpn'⟩ : ∃ n, P.next = n := ⟨_, rfl⟩
                rw [hpn'] at SI' CA2
                have CV := Lib.hid hcve
                have OF1 := Lib.hid ho
                obtain ⟨ml, hml⟩ : ∃ n, x.m.length = n := ⟨_, rfl⟩
                have hml10 : ml ≤ 10 := by rw [← hml, fits_len (GP.out.fit x hxm)]; exact GP.out.en _ (getD_memD _ _ (GP.out.tp x hxm))
                have HXL := Lib.hid hml
                obtain ⟨tv, htv2⟩ : ∃ v : Int, (x.tp : Int) = v := ⟨_, rfl⟩
                rw [htv2] at hC htv
                have HTV := Lib.hid htv
                have HCV := Lib.hid hC
                have e1 : decide (xk ≤ 1) = true := decide_eq_true (by omega)
                have e2 : decide (xk ≥ 0) = true := decide_eq_true (by omega)
                have HW1 := Lib.hid (wrap_in (by omega) : IntKind.i64.wrap (cv + 1) = cv + 1)
                clear CA G' GJ' hxm hxid hxi0 hxin hxa htv c1 c2 c3 c4 c5 hC hm hq2 hP' hcve hpn' hml htv2 ho hr he hk01
                have CA := CA2
                have G' := G2
                clear CA2 G2
                have C6 := mark_s IS5.out GP.out (by omega) OF1.out
                unfold MarkS at C6
                rw [HXL.out] at C6
                have t1 := T15.out
                go_wp2_with fail
                refine C6.mono ?_
                rintro e w6 ⟨aw6, cw6, rfl, hMw, hfw, hF⟩
                have MW6 := Lib.hid hMw
                have AW6 := Lib.hid (Apart.new IS5.out hfw hMw.2.lt)
                have T06 := Lib.hid (cell_fr' T05.out hF)
                have T16 := Lib.hid (cell_fr' T15.out hF)
                have T26 := Lib.hid (cell_fr' T25.out hF)
                have TX6 := Lib.hid (TX5.out.fr hF)
                have F6 := Lib.hid (F5.out.trans hF (by simp))
                have MP6 := Lib.hid (MP5.out.fr hF)
                have IS6 := Lib.hid (IS5.out.fr hF)
                clear hF C6 t1 hMw hfw
                have C7 := CA.out w6 IS6.out
                have t0 := T06.out
                have t1 := T16.out
                have t2 := T26.out
                go_wp2_with fail
                refine C7.mono ?_
                rintro e w7 ⟨rfl, S7, hIS, hF, hS⟩
                have IS7 := Lib.hid hIS
                have HS7 := Lib.hid (fun y hy => (by rcases hS y hy with h | h; exact HS.out y h; exact Nat.le_trans F6.out.size h) : ∀ y ∈ S7, W.heap.size ≤ y)
                have F7 := Lib.hid (F6.out.trans hF (fun y hy => .inr (HS.out y hy)))
                have MP7 := Lib.hid (MP6.out.next hF hS)
                have TX7 := Lib.hid (TX6.out.next hF hS)
                have T07 := Lib.hid ((cell_frA TX6.out hF 0).trans T06.out)
                have T17 := Lib.hid ((cell_frA TX6.out hF 1).trans T16.out)
                have T27 := Lib.hid ((cell_frA TX6.out hF 2).trans T26.out)
                have MW7 := Lib.hid (MW6.out.next hF AW6.out)
                have AW7 := Lib.hid (AW6.out.next hF hS)
                clear hIS hF hS C7 t0 t1 t2
                have C6 := mark_s IS7.out G'.out (by omega) OF2.out
                unfold MarkS at C6
                rw [HXL.out] at C6
                have t1 := T17.out
                go_wp2_with fail
                refine C6.mono ?_
                rintro e w8 ⟨aw8, cw8, rfl, hMw, hfw, hF⟩
                have MW78 := Lib.hid (MW7.out.fr hF)
                have MW8 := Lib.hid hMw
                have AW8 := Lib.hid (Apart.new IS7.out hfw hMw.2.lt)
                have T08 := Lib.hid (cell_fr' T07.out hF)
                have T18 := Lib.hid (cell_fr' T17.out hF)
                have T28 := Lib.hid (cell_fr' T27.out hF)
                have TX8 := Lib.hid (TX7.out.fr hF)
                have F8 := Lib.hid (F7.out.trans hF (by simp))
                have MP8 := Lib.hid (MP7.out.fr hF)
                have IS8 := Lib.hid (IS7.out.fr hF)
                clear hF C6 t1 hMw hfw
                have hrT := MP8.out.rdT xi
                rw [HTV.out] at hrT
                have hrC := MP8.out.rdC tv xa
                rw [HCV.out, show (some cq).getD ⟨0, 0, 0, false⟩ = cq from rfl, show (some cq).isSome = true from rfl] at hrC
                unfold CallD.val at hrC
                have t1 := T18.out
                have t2 := T28.out
                go_wp2_with (first | ((with_reducible refine wpList_var_agg rfl rfl 97 (.tmp 21) (.tmp 104) rfl rfl 4 zero97 [.int .i64 cq.of_, .int .i64 cq.at_, .int .i64 cq.to_, .bool cq.many] rfl ?_ ?_ ?_ ?_); (intro u hu; simp at hu; rcases hu with rfl | rfl | rfl | rfl <;> rfl); exact rfl; exact rfl))
                intro w9 hr9 hs9 hf9
                have hF := hf9
                have T09 := Lib.hid (cell_fr' T08.out hF)
                have T19 := Lib.hid (cell_fr' T18.out hF)
                have T29 := Lib.hid (cell_fr' T28.out hF)
                have TX9 := Lib.hid (TX8.out.fr hF)
                have F9 := Lib.hid (F8.out.trans hF (by simp))
                have MP9 := Lib.hid (MP8.out.fr hF)
                have IS9 := Lib.hid (IS8.out.fr hF)
                have u2 := hr9.cell 2
                have u3 := hr9.cell 3
                obtain ⟨ux, hux⟩ : ∃ b, w8.heap.size = b := ⟨_, rfl⟩
                rw [hux] at u2 u3 ⊢
                have U2 := Lib.hid u2
                have U3 := Lib.hid u3
                have F89 := Lib.hid hf9
                clear hr9 hs9 hf9 hF hux u2 u3 t1 t2 hrT hrC
                have C9 := rsame_any aw6 aw8 ml ml cw6 cw8 x.m x.m w9 (by omega) (by omega) (MW78.out.fr F89.out) (MW8.out.fr F89.out)
                rw [decide_eq_true (rfl : x.m = x.m)] at C9
                have t0 := T09.out
                have t1 := T19.out
                have t2 := T29.out
                have u2 := U2.out
                have u3 := U3.out
                have gp : decide ((pn' : Int) ≥ 0) = true := decide_eq_true (by omega)
                rcases hone with hmany | hcv1
                · rw [hmany] at u3
                  have HMY := Lib.hid hmany
                  clear hmany
                  go_wp2_with fail
                  refine C9.mono ?_
                  rintro e w10 ⟨rfl, hF⟩
                  have hrX10 := Lib.hid hF
                  have T010 := Lib.hid (cell_fr' T09.out hF)
                  have T110 := Lib.hid (cell_fr' T19.out hF)
                  have T210 := Lib.hid (cell_fr' T29.out hF)
                  have TX10 := Lib.hid (TX9.out.fr hF)
                  have F10 := Lib.hid (F9.out.trans hF (by simp))
                  have MP10 := Lib.hid (MP9.out.fr hF)
                  have IS10 := Lib.hid (IS9.out.fr hF)
                  have u2b := cell_fr' U2.out hF
                  have t1b := T110.out
                  have t2b := T210.out
                  obtain ⟨w11, runT', hmT, hfT, hzT⟩ := MP10.out.wrT pn' cq.to_
                  have hD : Fr [] w11 w11.drew := (Fr.refl [] w11).drew
                  have hrX2 := (hmT.fr hD).rdX xi xa
                  rw [CV.out] at hrX2
                  have hwr := HW1.out
                  obtain ⟨ev0, st, w12, w13, run1, hf1, run2, run3, hm2, hf2, hmz⟩ := (hmT.fr hD).enX xi xa (cv + 1)
                  rw [CV.out] at run2
                  have run1' : (Instr.mapEntry 100 (.map (some xb)) (.agg #[.int .i64 xi, .int .i64 xa])).run Try.prog w11.drew = .ok (.tuple #[ev0, .int .i64 (st : Int)]) w12 := run1
                  have run3' : (Instr.entryStore 100 (.map (some xb)) (.int .i64 (st : Int)) (.int .i64 (cv + 1))).run Try.prog w12 = .ok () w13 := run3
                  obtain ⟨w14, runF, hmF, hfF, hzF⟩ := hm2.wrF pn' xi xa
                  have b1 := cell_frZ T110.out hfT hzT
                  have b2 := cell_frZ T210.out hfT hzT
                  have c1 := cell_frZ (cell_fr' b1 hD) hf2 hmz
                  have c2 := cell_frZ (cell_fr' b2 hD) hf2 hmz
                  have KP0 := Lib.hid (⟨cell_fr' b1 hD, cell_fr' b2 hD, hrX2⟩ : w11.drew.cell? ⟨tx, 1, none⟩ = some (.int .i64 xi) ∧ w11.drew.cell? ⟨tx, 2, none⟩ = some (.int .i64 xa) ∧ (Instr.lookup 100 (.map (some xb)) (.agg #[.int .i64 xi, .int .i64 xa]) false).run Try.prog w11.drew = .ok (.int .i64 cv) w11.drew)
                  have KP1 := Lib.hid (⟨cell_frZ (cell_fr' b1 hD) hf1 hmz, cell_frZ (cell_fr' b2 hD) hf1 hmz, run2⟩ : w12.cell? ⟨tx, 1, none⟩ = some (.int .i64 xi) ∧ w12.cell? ⟨tx, 2, none⟩ = some (.int .i64 xa) ∧ (Instr.lookup 100 (.map (some xb)) (.agg #[.int .i64 xi, .int .i64 xa]) false).run Try.prog w12 = .ok (.int .i64 cv) w12)
                  have hcmx := MP10.out.cm
                  have htcx := MP10.out.tc
                  have IS14 := Lib.hid ((((IS10.out.frM hfT hzT).fr hD).frM hf2 hmz).frM hfF hzF)
                  have F14 := Lib.hid ((((F10.out.trans hfT (fun y hy => .inr (by simp at hy; omega))).trans hD (by simp)).trans hf2 (fun y hy => .inr (by simp at hy; omega))).trans hfF (fun y hy => .inr (by simp at hy; omega)))
                  have MP14 := Lib.hid hmF
                  clear hF hmT hfT hzT hrX2 run1 run2 run3 hf1 hm2 hf2 hmz hmF hfF hzF hcmx htcx t0 t1 t2 u2 C9 b1 b2 u3
                  go_wp2_with fail
                  refine wp_region_last (S := (fun W' => W'.cell? ⟨tx, 1, none⟩ = some (.int .i64 xi) ∧ W'.cell? ⟨tx, 2, none⟩ = some (.int .i64 xa) ∧ (Instr.lookup 100 (.map (some xb)) (.agg #[.int .i64 xi, .int .i64 xa]) false).run Try.prog W' = .ok (.int .i64 cv) W')) 10 (by kernel_rfl) KP0.out (fun hHeld => ?_)
                  refine wpAnyL_take (i := 0) (v := ?_) rfl (by kernel_rfl) (by kernel_rfl) (by kernel_rfl) (by kernel_rfl) (fun _ _ _ h => h) (Or.inl ⟨rfl, ?_⟩) hHeld ?_
                  rotate_left
                  · (intro w hSw; (try dsimp only at hSw); go_simp; try (with_reducible rfl))
                  simp only [List.getElem_toArray, List.getElem_cons_succ, List.getElem_cons_zero, Act.put, List.setIfInBounds_toArray, List.set_cons_zero, List.set_cons_succ]
                  refine wpAnyL_take (i := 1) (v := ?_) rfl (by kernel_rfl) (by kernel_rfl) (by kernel_rfl) (by kernel_rfl) (fun _ _ _ h => h) (Or.inl ⟨rfl, ?_⟩) hHeld ?_
                  rotate_left
                  · (intro w hSw; (try dsimp only at hSw); go_simp; try (with_reducible rfl))
                  simp only [List.getElem_toArray, List.getElem_cons_succ, List.getElem_cons_zero, Act.put, List.setIfInBounds_toArray, List.set_cons_zero, List.set_cons_succ]
                  refine wpAnyL_take (i := 2) (v := ?_) rfl (by kernel_rfl) (by kernel_rfl) (by kernel_rfl) (by kernel_rfl) (fun _ _ _ h => h) (Or.inl ⟨rfl, ?_⟩) hHeld ?_
                  rotate_left
                  · (intro w hSw; (try dsimp only at hSw); go_simp; try (with_reducible rfl))
                  simp only [List.getElem_toArray, List.getElem_cons_succ, List.getElem_cons_zero, Act.put, List.setIfInBounds_toArray, List.set_cons_zero, List.set_cons_succ]
                  refine wpAnyL_take (i := 3) (v := ?_) rfl (by kernel_rfl) (by kernel_rfl) (by kernel_rfl) (by kernel_rfl) (fun _ _ _ h => h) (Or.inl ⟨rfl, ?_⟩) hHeld ?_
                  rotate_left
                  · (intro w hSw; (try dsimp only at hSw); go_simp; try (with_reducible rfl))
                  simp only [List.getElem_toArray, List.getElem_cons_succ, List.getElem_cons_zero, Act.put, List.setIfInBounds_toArray, List.set_cons_zero, List.set_cons_succ]
                  refine wpAnyL_take (i := 4) (v := ?_) rfl (by kernel_rfl) (by kernel_rfl) (by kernel_rfl) (by kernel_rfl) (fun _ _ _ h => h) (Or.inl ⟨rfl, ?_⟩) hHeld ?_
                  rotate_left
                  · (intro w hSw; (try dsimp only at hSw); go_simp; try (with_reducible rfl))
                  simp only [List.getElem_toArray, List.getElem_cons_succ, List.getElem_cons_zero, Act.put, List.setIfInBounds_toArray, List.set_cons_zero, List.set_cons_succ]
                  refine wpAnyL_take (i := 5) (v := ?_) rfl (by kernel_rfl) (by kernel_rfl) (by kernel_rfl) (by kernel_rfl) (fun _ _ _ h => h) (Or.inl ⟨rfl, ?_⟩) hHeld ?_
                  rotate_left
                  · (intro w hSw; (try dsimp only at hSw); go_simp; try (with_reducible rfl))
                  simp only [List.getElem_toArray, List.getElem_cons_succ, List.getElem_cons_zero, Act.put, List.setIfInBounds_toArray, List.set_cons_zero, List.set_cons_succ]
                  refine wpAnyL_take (i := 6) (v := ?_) rfl (by kernel_rfl) (by kernel_rfl) (by kernel_rfl) (by kernel_rfl) (fun _ _ _ h => h) (Or.inl ⟨rfl, ?_⟩) hHeld ?_
                  rotate_left
                  · (intro w hSw; (try dsimp only at hSw); go_simp; try (with_reducible rfl))
                  simp only [List.getElem_toArray, List.getElem_cons_succ, List.getElem_cons_zero, Act.put, List.setIfInBounds_toArray, List.set_cons_zero, List.set_cons_succ]
                  refine wpAnyL_take (i := 7) (v := ?_) rfl (by kernel_rfl) (by kernel_rfl) (by kernel_rfl) (by kernel_rfl) (fun _ _ _ h => h) (Or.inl ⟨rfl, ?_⟩) hHeld ?_
                  rotate_left
                  · (intro w hSw; (try dsimp only at hSw); go_simp; try (with_reducible rfl))
                  simp only [List.getElem_toArray, List.getElem_cons_succ, List.getElem_cons_zero, Act.put, List.setIfInBounds_toArray, List.set_cons_zero, List.set_cons_succ]
                  refine wpAnyL_ready (rs := [8]) (by kernel_rfl) (by simp) ?_
                  refine AllReadyL.cons rfl (fun K hK => ?_) AllReadyL.nil
                  simp only [List.getElem_toArray, List.getElem_cons_succ, List.getElem_cons_zero]
                  go_simp
                  refine hK.out _ _ (KP1.out) (fun hHeld => ?_)
                  clear hK K
                  try simp only [List.getElem_toArray, List.getElem_cons_succ, List.getElem_cons_zero, Act.put, List.setIfInBounds_toArray, List.set_cons_zero, List.set_cons_succ]
                  refine wpAnyL_take (i := 9) (v := ?_) rfl (by kernel_rfl) (by kernel_rfl) (by kernel_rfl) (by kernel_rfl) (fun _ _ _ h => h) (Or.inl ⟨rfl, ?_⟩) hHeld ?_
                  rotate_left
                  · (intro w hSw; (try dsimp only at hSw); go_simp; try (with_reducible rfl))
                  simp only [List.getElem_toArray, List.getElem_cons_succ, List.getElem_cons_zero, Act.put, List.setIfInBounds_toArray, List.set_cons_zero, List.set_cons_succ]
                  refine wpAnyL_ready (rs := [10]) (by kernel_rfl) (by simp) ?_
                  refine AllReadyL.end_ rfl (fun K hK => ?_)
                  simp only [List.getElem_toArray, List.getElem_cons_succ, List.getElem_cons_zero]
                  go_simp
                  refine hK.out _ _ ?_
                  clear hK K
                  try simp only [List.getElem_toArray, List.getElem_cons_succ, List.getElem_cons_zero, Act.put, List.setIfInBounds_toArray, List.set_cons_zero, List.set_cons_succ]
                  refine wpAnyL_done (by kernel_rfl) ?_ _
                  clear run1' run3' hHeld KP0 KP1 hwr hD
                  go_wp2_with fail
                  go_roundg (N - (j + 1))
                  case measure => omega
                  case rel => exact ⟨j + 1, S7, P', _, _, _, rfl, by omega, rfl, IS14.out, (by rw [show 1 + (j + 1) = 1 + j + 1 by omega]; exact GJ2.out), by rw [HC4.out, PC.out], SI'.out, MP14.out, HS7.out, F14.out⟩
                · have hrX := MP9.out.rdX xi xa
                  rw [CV.out, hcv1] at hrX
                  have HMY := Lib.hid hcv1
                  clear hcv1
                  cases hmb : cq.many
                  · rw [hmb] at u3
                    have HMB := Lib.hid hmb
                    clear hmb
                    go_wp2_with fail
                    refine C9.mono ?_
                    rintro e w10 ⟨rfl, hF⟩
                    have hrX10 := Lib.hid hF
                    have T010 := Lib.hid (cell_fr' T09.out hF)
                    have T110 := Lib.hid (cell_fr' T19.out hF)
                    have T210 := Lib.hid (cell_fr' T29.out hF)
                    have TX10 := Lib.hid (TX9.out.fr hF)
                    have F10 := Lib.hid (F9.out.trans hF (by simp))
                    have MP10 := Lib.hid (MP9.out.fr hF)
                    have IS10 := Lib.hid (IS9.out.fr hF)
                    have u2b := cell_fr' U2.out hF
                    have t1b := T110.out
                    have t2b := T210.out
                    obtain ⟨w11, runT', hmT, hfT, hzT⟩ := MP10.out.wrT pn' cq.to_
                    have hD : Fr [] w11 w11.drew := (Fr.refl [] w11).drew
                    have hrX2 := (hmT.fr hD).rdX xi xa
                    rw [CV.out] at hrX2
                    have hwr := HW1.out
                    obtain ⟨ev0, st, w12, w13, run1, hf1, run2, run3, hm2, hf2, hmz⟩ := (hmT.fr hD).enX xi xa (cv + 1)
                    rw [CV.out] at run2
                    have run1' : (Instr.mapEntry 100 (.map (some xb)) (.agg #[.int .i64 xi, .int .i64 xa])).run Try.prog w11.drew = .ok (.tuple #[ev0, .int .i64 (st : Int)]) w12 := run1
                    have run3' : (Instr.entryStore 100 (.map (some xb)) (.int .i64 (st : Int)) (.int .i64 (cv + 1))).run Try.prog w12 = .ok () w13 := run3
                    obtain ⟨w14, runF, hmF, hfF, hzF⟩ := hm2.wrF pn' xi xa
                    have b1 := cell_frZ T110.out hfT hzT
                    have b2 := cell_frZ T210.out hfT hzT
                    have c1 := cell_frZ (cell_fr' b1 hD) hf2 hmz
                    have c2 := cell_frZ (cell_fr' b2 hD) hf2 hmz
                    have KP0 := Lib.hid (⟨cell_fr' b1 hD, cell_fr' b2 hD, hrX2⟩ : w11.drew.cell? ⟨tx, 1, none⟩ = some (.int .i64 xi) ∧ w11.drew.cell? ⟨tx, 2, none⟩ = some (.int .i64 xa) ∧ (Instr.lookup 100 (.map (some xb)) (.agg #[.int .i64 xi, .int .i64 xa]) false).run Try.prog w11.drew = .ok (.int .i64 cv) w11.drew)
                    have KP1 := Lib.hid (⟨cell_frZ (cell_fr' b1 hD) hf1 hmz, cell_frZ (cell_fr' b2 hD) hf1 hmz, run2⟩ : w12.cell? ⟨tx, 1, none⟩ = some (.int .i64 xi) ∧ w12.cell? ⟨tx, 2, none⟩ = some (.int .i64 xa) ∧ (Instr.lookup 100 (.map (some xb)) (.agg #[.int .i64 xi, .int .i64 xa]) false).run Try.prog w12 = .ok (.int .i64 cv) w12)
                    have hcmx := MP10.out.cm
                    have htcx := MP10.out.tc
                    have IS14 := Lib.hid ((((IS10.out.frM hfT hzT).fr hD).frM hf2 hmz).frM hfF hzF)
                    have F14 := Lib.hid ((((F10.out.trans hfT (fun y hy => .inr (by simp at hy; omega))).trans hD (by simp)).trans hf2 (fun y hy => .inr (by simp at hy; omega))).trans hfF (fun y hy => .inr (by simp at hy; omega)))
                    have MP14 := Lib.hid hmF
                    clear hF hmT hfT hzT hrX2 run1 run2 run3 hf1 hm2 hf2 hmz hmF hfF hzF hcmx htcx t0 t1 t2 u2 C9 b1 b2 u3 hrX
                    go_wp2_with fail
                    refine wp_region_last (S := (fun W' => W'.cell? ⟨tx, 1, none⟩ = some (.int .i64 xi) ∧ W'.cell? ⟨tx, 2, none⟩ = some (.int .i64 xa) ∧ (Instr.lookup 100 (.map (some xb)) (.agg #[.int .i64 xi, .int .i64 xa]) false).run Try.prog W' = .ok (.int .i64 cv) W')) 10 (by kernel_rfl) KP0.out (fun hHeld => ?_)
                    refine wpAnyL_take (i := 0) (v := ?_) rfl (by kernel_rfl) (by kernel_rfl) (by kernel_rfl) (by kernel_rfl) (fun _ _ _ h => h) (Or.inl ⟨rfl, ?_⟩) hHeld ?_
                    rotate_left
                    · (intro w hSw; (try dsimp only at hSw); go_simp; try (with_reducible rfl))
                    simp only [List.getElem_toArray, List.getElem_cons_succ, List.getElem_cons_zero, Act.put, List.setIfInBounds_toArray, List.set_cons_zero, List.set_cons_succ]
                    refine wpAnyL_take (i := 1) (v := ?_) rfl (by kernel_rfl) (by kernel_rfl) (by kernel_rfl) (by kernel_rfl) (fun _ _ _ h => h) (Or.inl ⟨rfl, ?_⟩) hHeld ?_
                    rotate_left
                    · (intro w hSw; (try dsimp only at hSw); go_simp; try (with_reducible rfl))
                    simp only [List.getElem_toArray, List.getElem_cons_succ, List.getElem_cons_zero, Act.put, List.setIfInBounds_toArray, List.set_cons_zero, List.set_cons_succ]
                    refine wpAnyL_take (i := 2) (v := ?_) rfl (by kernel_rfl) (by kernel_rfl) (by kernel_rfl) (by kernel_rfl) (fun _ _ _ h => h) (Or.inl ⟨rfl, ?_⟩) hHeld ?_
                    rotate_left
                    · (intro w hSw; (try dsimp only at hSw); go_simp; try (with_reducible rfl))
                    simp only [List.getElem_toArray, List.getElem_cons_succ, List.getElem_cons_zero, Act.put, List.setIfInBounds_toArray, List.set_cons_zero, List.set_cons_succ]
                    refine wpAnyL_take (i := 3) (v := ?_) rfl (by kernel_rfl) (by kernel_rfl) (by kernel_rfl) (by kernel_rfl) (fun _ _ _ h => h) (Or.inl ⟨rfl, ?_⟩) hHeld ?_
                    rotate_left
                    · (intro w hSw; (try dsimp only at hSw); go_simp; try (with_reducible rfl))
                    simp only [List.getElem_toArray, List.getElem_cons_succ, List.getElem_cons_zero, Act.put, List.setIfInBounds_toArray, List.set_cons_zero, List.set_cons_succ]
                    refine wpAnyL_take (i := 4) (v := ?_) rfl (by kernel_rfl) (by kernel_rfl) (by kernel_rfl) (by kernel_rfl) (fun _ _ _ h => h) (Or.inl ⟨rfl, ?_⟩) hHeld ?_
                    rotate_left
                    · (intro w hSw; (try dsimp only at hSw); go_simp; try (with_reducible rfl))
                    simp only [List.getElem_toArray, List.getElem_cons_succ, List.getElem_cons_zero, Act.put, List.setIfInBounds_toArray, List.set_cons_zero, List.set_cons_succ]
                    refine wpAnyL_take (i := 5) (v := ?_) rfl (by kernel_rfl) (by kernel_rfl) (by kernel_rfl) (by kernel_rfl) (fun _ _ _ h => h) (Or.inl ⟨rfl, ?_⟩) hHeld ?_
                    rotate_left
                    · (intro w hSw; (try dsimp only at hSw); go_simp; try (with_reducible rfl))
                    simp only [List.getElem_toArray, List.getElem_cons_succ, List.getElem_cons_zero, Act.put, List.setIfInBounds_toArray, List.set_cons_zero, List.set_cons_succ]
                    refine wpAnyL_take (i := 6) (v := ?_) rfl (by kernel_rfl) (by kernel_rfl) (by kernel_rfl) (by kernel_rfl) (fun _ _ _ h => h) (Or.inl ⟨rfl, ?_⟩) hHeld ?_
                    rotate_left
                    · (intro w hSw; (try dsimp only at hSw); go_simp; try (with_reducible rfl))
                    simp only [List.getElem_toArray, List.getElem_cons_succ, List.getElem_cons_zero, Act.put, List.setIfInBounds_toArray, List.set_cons_zero, List.set_cons_succ]
                    refine wpAnyL_take (i := 7) (v := ?_) rfl (by kernel_rfl) (by kernel_rfl) (by kernel_rfl) (by kernel_rfl) (fun _ _ _ h => h) (Or.inl ⟨rfl, ?_⟩) hHeld ?_
                    rotate_left
                    · (intro w hSw; (try dsimp only at hSw); go_simp; try (with_reducible rfl))
                    simp only [List.getElem_toArray, List.getElem_cons_succ, List.getElem_cons_zero, Act.put, List.setIfInBounds_toArray, List.set_cons_zero, List.set_cons_succ]
                    refine wpAnyL_ready (rs := [8]) (by kernel_rfl) (by simp) ?_
                    refine AllReadyL.cons rfl (fun K hK => ?_) AllReadyL.nil
                    simp only [List.getElem_toArray, List.getElem_cons_succ, List.getElem_cons_zero]
                    go_simp
                    refine hK.out _ _ (KP1.out) (fun hHeld => ?_)
                    clear hK K
                    try simp only [List.getElem_toArray, List.getElem_cons_succ, List.getElem_cons_zero, Act.put, List.setIfInBounds_toArray, List.set_cons_zero, List.set_cons_succ]
                    refine wpAnyL_take (i := 9) (v := ?_) rfl (by kernel_rfl) (by kernel_rfl) (by kernel_rfl) (by kernel_rfl) (fun _ _ _ h => h) (Or.inl ⟨rfl, ?_⟩) hHeld ?_
                    rotate_left
                    · (intro w hSw; (try dsimp only at hSw); go_simp; try (with_reducible rfl))
                    simp only [List.getElem_toArray, List.getElem_cons_succ, List.getElem_cons_zero, Act.put, List.setIfInBounds_toArray, List.set_cons_zero, List.set_cons_succ]
                    refine wpAnyL_ready (rs := [10]) (by kernel_rfl) (by simp) ?_
                    refine AllReadyL.end_ rfl (fun K hK => ?_)
                    simp only [List.getElem_toArray, List.getElem_cons_succ, List.getElem_cons_zero]
                    go_simp
                    refine hK.out _ _ ?_
                    clear hK K
                    try simp only [List.getElem_toArray, List.getElem_cons_succ, List.getElem_cons_zero, Act.put, List.setIfInBounds_toArray, List.set_cons_zero, List.set_cons_succ]
                    refine wpAnyL_done (by kernel_rfl) ?_ _
                    clear run1' run3' hHeld KP0 KP1 hwr hD
                    go_wp2_with fail
                    go_roundg (N - (j + 1))
                    case measure => omega
                    case rel => exact ⟨j + 1, S7, P', _, _, _, rfl, by omega, rfl, IS14.out, (by rw [show 1 + (j + 1) = 1 + j + 1 by omega]; exact GJ2.out), by rw [HC4.out, PC.out], SI'.out, MP14.out, HS7.out, F14.out⟩
                  · rw [hmb] at u3
                    have HMB := Lib.hid hmb
                    clear hmb
                    go_wp2_with fail
                    refine C9.mono ?_
                    rintro e w10 ⟨rfl, hF⟩
                    have hrX10 := Lib.hid hF
                    have T010 := Lib.hid (cell_fr' T09.out hF)
                    have T110 := Lib.hid (cell_fr' T19.out hF)
                    have T210 := Lib.hid (cell_fr' T29.out hF)
                    have TX10 := Lib.hid (TX9.out.fr hF)
                    have F10 := Lib.hid (F9.out.trans hF (by simp))
                    have MP10 := Lib.hid (MP9.out.fr hF)
                    have IS10 := Lib.hid (IS9.out.fr hF)
                    have u2b := cell_fr' U2.out hF
                    have t1b := T110.out
                    have t2b := T210.out
                    obtain ⟨w11, runT', hmT, hfT, hzT⟩ := MP10.out.wrT pn' cq.to_
                    have hD : Fr [] w11 w11.drew := (Fr.refl [] w11).drew
                    have hrX2 := (hmT.fr hD).rdX xi xa
                    rw [CV.out] at hrX2
                    have hwr := HW1.out
                    obtain ⟨ev0, st, w12, w13, run1, hf1, run2, run3, hm2, hf2, hmz⟩ := (hmT.fr hD).enX xi xa (cv + 1)
                    rw [CV.out] at run2
                    have run1' : (Instr.mapEntry 100 (.map (some xb)) (.agg #[.int .i64 xi, .int .i64 xa])).run Try.prog w11.drew = .ok (.tuple #[ev0, .int .i64 (st : Int)]) w12 := run1
                    have run3' : (Instr.entryStore 100 (.map (some xb)) (.int .i64 (st : Int)) (.int .i64 (cv + 1))).run Try.prog w12 = .ok () w13 := run3
                    obtain ⟨w14, runF, hmF, hfF, hzF⟩ := hm2.wrF pn' xi xa
                    have b1 := cell_frZ T110.out hfT hzT
                    have b2 := cell_frZ T210.out hfT hzT
                    have c1 := cell_frZ (cell_fr' b1 hD) hf2 hmz
                    have c2 := cell_frZ (cell_fr' b2 hD) hf2 hmz
                    have KP0 := Lib.hid (⟨cell_fr' b1 hD, cell_fr' b2 hD, hrX2⟩ : w11.drew.cell? ⟨tx, 1, none⟩ = some (.int .i64 xi) ∧ w11.drew.cell? ⟨tx, 2, none⟩ = some (.int .i64 xa) ∧ (Instr.lookup 100 (.map (some xb)) (.agg #[.int .i64 xi, .int .i64 xa]) false).run Try.prog w11.drew = .ok (.int .i64 cv) w11.drew)
                    have KP1 := Lib.hid (⟨cell_frZ (cell_fr' b1 hD) hf1 hmz, cell_frZ (cell_fr' b2 hD) hf1 hmz, run2⟩ : w12.cell? ⟨tx, 1, none⟩ = some (.int .i64 xi) ∧ w12.cell? ⟨tx, 2, none⟩ = some (.int .i64 xa) ∧ (Instr.lookup 100 (.map (some xb)) (.agg #[.int .i64 xi, .int .i64 xa]) false).run Try.prog w12 = .ok (.int .i64 cv) w12)
                    have hcmx := MP10.out.cm
                    have htcx := MP10.out.tc
                    have IS14 := Lib.hid ((((IS10.out.frM hfT hzT).fr hD).frM hf2 hmz).frM hfF hzF)
                    have F14 := Lib.hid ((((F10.out.trans hfT (fun y hy => .inr (by simp at hy; omega))).trans hD (by simp)).trans hf2 (fun y hy => .inr (by simp at hy; omega))).trans hfF (fun y hy => .inr (by simp at hy; omega)))
                    have MP14 := Lib.hid hmF
                    clear hF hmT hfT hzT hrX2 run1 run2 run3 hf1 hm2 hf2 hmz hmF hfF hzF hcmx htcx t0 t1 t2 u2 C9 b1 b2 u3 hrX
                    go_wp2_with fail
                    refine wp_region_last (S := (fun W' => W'.cell? ⟨tx, 1, none⟩ = some (.int .i64 xi) ∧ W'.cell? ⟨tx, 2, none⟩ = some (.int .i64 xa) ∧ (Instr.lookup 100 (.map (some xb)) (.agg #[.int .i64 xi, .int .i64 xa]) false).run Try.prog W' = .ok (.int .i64 cv) W')) 10 (by kernel_rfl) KP0.out (fun hHeld => ?_)
                    refine wpAnyL_take (i := 0) (v := ?_) rfl (by kernel_rfl) (by kernel_rfl) (by kernel_rfl) (by kernel_rfl) (fun _ _ _ h => h) (Or.inl ⟨rfl, ?_⟩) hHeld ?_
                    rotate_left
                    · (intro w hSw; (try dsimp only at hSw); go_simp; try (with_reducible rfl))
                    simp only [List.getElem_toArray, List.getElem_cons_succ, List.getElem_cons_zero, Act.put, List.setIfInBounds_toArray, List.set_cons_zero, List.set_cons_succ]
                    refine wpAnyL_take (i := 1) (v := ?_) rfl (by kernel_rfl) (by kernel_rfl) (by kernel_rfl) (by kernel_rfl) (fun _ _ _ h => h) (Or.inl ⟨rfl, ?_⟩) hHeld ?_
                    rotate_left
                    · (intro w hSw; (try dsimp only at hSw); go_simp; try (with_reducible rfl))
                    simp only [List.getElem_toArray, List.getElem_cons_succ, List.getElem_cons_zero, Act.put, List.setIfInBounds_toArray, List.set_cons_zero, List.set_cons_succ]
                    refine wpAnyL_take (i := 2) (v := ?_) rfl (by kernel_rfl) (by kernel_rfl) (by kernel_rfl) (by kernel_rfl) (fun _ _ _ h => h) (Or.inl ⟨rfl, ?_⟩) hHeld ?_
                    rotate_left
                    · (intro w hSw; (try dsimp only at hSw); go_simp; try (with_reducible rfl))
                    simp only [List.getElem_toArray, List.getElem_cons_succ, List.getElem_cons_zero, Act.put, List.setIfInBounds_toArray, List.set_cons_zero, List.set_cons_succ]
                    refine wpAnyL_take (i := 3) (v := ?_) rfl (by kernel_rfl) (by kernel_rfl) (by kernel_rfl) (by kernel_rfl) (fun _ _ _ h => h) (Or.inl ⟨rfl, ?_⟩) hHeld ?_
                    rotate_left
                    · (intro w hSw; (try dsimp only at hSw); go_simp; try (with_reducible rfl))
                    simp only [List.getElem_toArray, List.getElem_cons_succ, List.getElem_cons_zero, Act.put, List.setIfInBounds_toArray, List.set_cons_zero, List.set_cons_succ]
                    refine wpAnyL_take (i := 4) (v := ?_) rfl (by kernel_rfl) (by kernel_rfl) (by kernel_rfl) (by kernel_rfl) (fun _ _ _ h => h) (Or.inl ⟨rfl, ?_⟩) hHeld ?_
                    rotate_left
                    · (intro w hSw; (try dsimp only at hSw); go_simp; try (with_reducible rfl))
                    simp only [List.getElem_toArray, List.getElem_cons_succ, List.getElem_cons_zero, Act.put, List.setIfInBounds_toArray, List.set_cons_zero, List.set_cons_succ]
                    refine wpAnyL_take (i := 5) (v := ?_) rfl (by kernel_rfl) (by kernel_rfl) (by kernel_rfl) (by kernel_rfl) (fun _ _ _ h => h) (Or.inl ⟨rfl, ?_⟩) hHeld ?_
                    rotate_left
                    · (intro w hSw; (try dsimp only at hSw); go_simp; try (with_reducible rfl))
                    simp only [List.getElem_toArray, List.getElem_cons_succ, List.getElem_cons_zero, Act.put, List.setIfInBounds_toArray, List.set_cons_zero, List.set_cons_succ]
                    refine wpAnyL_take (i := 6) (v := ?_) rfl (by kernel_rfl) (by kernel_rfl) (by kernel_rfl) (by kernel_rfl) (fun _ _ _ h => h) (Or.inl ⟨rfl, ?_⟩) hHeld ?_
                    rotate_left
                    · (intro w hSw; (try dsimp only at hSw); go_simp; try (with_reducible rfl))
                    simp only [List.getElem_toArray, List.getElem_cons_succ, List.getElem_cons_zero, Act.put, List.setIfInBounds_toArray, List.set_cons_zero, List.set_cons_succ]
                    refine wpAnyL_take (i := 7) (v := ?_) rfl (by kernel_rfl) (by kernel_rfl) (by kernel_rfl) (by kernel_rfl) (fun _ _ _ h => h) (Or.inl ⟨rfl, ?_⟩) hHeld ?_
                    rotate_left
                    · (intro w hSw; (try dsimp only at hSw); go_simp; try (with_reducible rfl))
                    simp only [List.getElem_toArray, List.getElem_cons_succ, List.getElem_cons_zero, Act.put, List.setIfInBounds_toArray, List.set_cons_zero, List.set_cons_succ]
                    refine wpAnyL_ready (rs := [8]) (by kernel_rfl) (by simp) ?_
                    refine AllReadyL.cons rfl (fun K hK => ?_) AllReadyL.nil
                    simp only [List.getElem_toArray, List.getElem_cons_succ, List.getElem_cons_zero]
                    go_simp
                    refine hK.out _ _ (KP1.out) (fun hHeld => ?_)
                    clear hK K
                    try simp only [List.getElem_toArray, List.getElem_cons_succ, List.getElem_cons_zero, Act.put, List.setIfInBounds_toArray, List.set_cons_zero, List.set_cons_succ]
                    refine wpAnyL_take (i := 9) (v := ?_) rfl (by kernel_rfl) (by kernel_rfl) (by kernel_rfl) (by kernel_rfl) (fun _ _ _ h => h) (Or.inl ⟨rfl, ?_⟩) hHeld ?_
                    rotate_left
                    · (intro w hSw; (try dsimp only at hSw); go_simp; try (with_reducible rfl))
                    simp only [List.getElem_toArray, List.getElem_cons_succ, List.getElem_cons_zero, Act.put, List.setIfInBounds_toArray, List.set_cons_zero, List.set_cons_succ]
                    refine wpAnyL_ready (rs := [10]) (by kernel_rfl) (by simp) ?_
                    refine AllReadyL.end_ rfl (fun K hK => ?_)
                    simp only [List.getElem_toArray, List.getElem_cons_succ, List.getElem_cons_zero]
                    go_simp
                    refine hK.out _ _ ?_
                    clear hK K
                    try simp only [List.getElem_toArray, List.getElem_cons_succ, List.getElem_cons_zero, Act.put, List.setIfInBounds_toArray, List.set_cons_zero, List.set_cons_succ]
                    refine wpAnyL_done (by kernel_rfl) ?_ _
                    clear run1' run3' hHeld KP0 KP1 hwr hD
                    go_wp2_with fail
                    go_roundg (N - (j + 1))
                    case measure => omega
                    case rel => exact ⟨j + 1, S7, P', _, _, _, rfl, by omega, rfl, IS14.out, (by rw [show 1 + (j + 1) = 1 + j + 1 by omega]; exact GJ2.out), by rw [HC4.out, PC.out], SI'.out, MP14.out, HS7.out, F14.out⟩
            · by_cases hk2 : xk = 2
              · subst hk2
                obtain ⟨x, y, ho, h0, hkid, hoy, hdo, he⟩ := endF_zero GP.out (show (endF P xi).1 = 0 by have := hE; rw [← HQ.out] at this; exact this)
                have hq2 : q = (-1, 0, { P with L := (P.L.map (PI.setm y.id (doM (P.f y) y.m x.ev.toNat))).filter (fun z => decide (z.id ≠ xi)) }) := by
                  rw [← HQ.out]
                  show (-1, endF P xi) = _
                  rw [he]
                obtain ⟨hxm, hxid⟩ := of_mem ho
                obtain ⟨hym, hyid⟩ := of_mem hoy
                have hfy := GP.out.fit y hym
                have hMf := do_fits (P.f y) y.m x.ev.toNat hfy
                have hev : 0 ≤ x.ev ∧ x.ev < y.m.length := by
                  unfold doE at hdo
                  split at hdo
                  · cases hdo
                  · split at hdo
                    · cases hdo
                    · omega
                have hage := do_age (P.f y) y.m x.ev.toNat x.ev.toNat (by omega)
                rw [if_pos rfl] at hage
                have hMl : (doM (P.f y) y.m x.ev.toNat).length = y.m.length := by rw [fits_len hMf, fits_len hfy]
                have hpl := (GP.out.parlt hxm).1
                have SI' := Lib.hid (show SingI { P with L := (P.L.map (PI.setm y.id (doM (P.f y) y.m x.ev.toNat))).filter (fun z => decide (z.id ≠ xi)) } tm (fun z => if z = (x.par, x.ev) then some ((ch (x.par, x.ev)).getD 0 - 1) else ch z) fm by
                  have h1 := SI.out.mapL (PI.setm y.id (doM (P.f y) y.m x.ev.toNat)) (setm_same _ _)
                  have h2 := h1.drop (GP.out.setm hym hMf) (x := PI.setm y.id (doM (P.f y) y.m x.ev.toNat) x) (List.mem_map.2 ⟨x, hxm, rfl⟩)
                  rw [(setm_same _ _ x).1, (setm_same _ _ x).2.2.1, (setm_same _ _ x).2.2.2, hxid] at h2
                  exact h2)
                have hof : ({ P with L := (P.L.map (PI.setm y.id (doM (P.f y) y.m x.ev.toNat))).filter (fun z => decide (z.id ≠ xi)) } : PT).of x.par = some { y with m := doM (P.f y) y.m x.ev.toNat } := by
                  have h1 := of_drop (P := P.setm y.id (doM (P.f y) y.m x.ev.toNat)) (id := xi) (j := y.id) (by omega)
                  have h2 := of_setm P y.id (doM (P.f y) y.m x.ev.toNat)
                  rw [show P.of y.id = some y by rw [hyid]; exact hoy] at h2
                  rw [← hyid]
                  exact h1.trans h2
                have hfm := SI.out.fm x hxm (by omega)
                rw [hxid] at hfm
                have hcv : 0 ≤ (ch (x.par, x.ev)).getD 0 ∧ (ch (x.par, x.ev)).getD 0 ≤ 40 := by
                  rw [SI.out.ch x.par x.ev (by rw [← hyid]; exact (GP.out.lo y hym).1)]
                  have h1 : cntP P x.par x.ev ≤ P.L.length := List.length_filter_le _ _
                  have := GP.out.len
                  omega
                rw [hq2] at CA G' GJ'
                simp only at CA G' GJ'
                obtain ⟨M, hM⟩ : ∃ M, doM (P.f y) y.m x.ev.toNat = M := ⟨_, rfl⟩
                rw [hM] at CA G' GJ' hage hMl SI' hof
                obtain ⟨P', hP'⟩ : ∃ P', ({ P with L := (P.L.map (PI.setm y.id M)).filter (fun z => decide (z.id ≠ xi)) } : PT) = P' := ⟨_, rfl⟩
                have G2 : Hid (GoodP P' 82) := by rw [← hP']; exact G'
                have GJ2 : Hid (GoodP P' (1 + j + 1)) := by rw [← hP']; exact GJ'
                have CA2 : Hid (∀ w', TreeIs w' tb hi S P → Calls Try.prog 60 #[.pointer (some ⟨tb, 0, none⟩), .agg #[.int .i64 2, .int .i64 xi, .int .i64 xa]] w' fun e w'' => e = .returned (.tuple #[.int .i64 (-1), .int .i64 0]) ∧ NextI tb hi S w' P' w'') := by rw [← hP']; exact CA
                have HC4 := Lib.hid (show P'.C = P.C by rw [← hP'])
                rw [hP'] at SI' hof
                have OF := Lib.hid hof
                obtain ⟨ey, hey⟩ : ∃ n : Nat, x.ev = (n : Int) := Int.eq_ofNat_of_zero_le hev.1
                obtain ⟨par, hpar⟩ : ∃ v, x.par = v := ⟨_, rfl⟩
                rw [hey, hpar] at hfm hcv SI'
                rw [hey, show ((ey : Int)).toNat = ey from Int.toNat_natCast ey] at hage
                rw [hpar] at OF
                obtain ⟨cv, hcve⟩ : ∃ v, (ch (par, (ey : Int))).getD 0 = v := ⟨_, rfl⟩
                rw [hcve] at hcv SI'
                obtain ⟨cv0, cv40⟩ := hcv
                have hey2 : ey < M.length := by rw [hMl]; omega
                have AGE := Lib.hid hage
                have FM := Lib.hid hfm
                have CV := Lib.hid hcve
                have OF2 := Lib.hid (show ∃ z, P'.of par = some z ∧ z.m = M from ⟨_, OF.out, rfl⟩)
                clear CA G' GJ' HC3 hq2 hE hk01 ho h0 hkid hoy hdo he hxm hxid hym hyid hfy hMf hev hage hMl hpl hof hfm hM hP' hey hpar hcve OF
                have CA := CA2
                have G' := G2
                clear CA2 G2
                have C6 := mark_w IS5.out GP.out (by omega) xi
                have t1 := T15.out
                go_wp2_with fail
                refine C6.mono ?_
                rintro e w6 ⟨aw6, nw6, cw6, bw6, rfl, hF⟩
                have T06 := Lib.hid (cell_fr' T05.out hF)
                have T16 := Lib.hid (cell_fr' T15.out hF)
                have T26 := Lib.hid (cell_fr' T25.out hF)
                have TX6 := Lib.hid (TX5.out.fr hF)
                have F6 := Lib.hid (F5.out.trans hF (by simp))
                have MP6 := Lib.hid (MP5.out.fr hF)
                have IS6 := Lib.hid (IS5.out.fr hF)
                clear hF C6 t1
                have C7 := CA.out w6 IS6.out
                have t0 := T06.out
                have t1 := T16.out
                have t2 := T26.out
                go_wp2_with fail
                refine C7.mono ?_
                rintro e w7 ⟨rfl, S7, hIS, hF, hS⟩
                have IS7 := Lib.hid hIS
                have HS7 := Lib.hid (fun y hy => (by rcases hS y hy with h | h; exact HS.out y h; exact Nat.le_trans F6.out.size h) : ∀ y ∈ S7, W.heap.size ≤ y)
                have F7 := Lib.hid (F6.out.trans hF (fun y hy => .inr (HS.out y hy)))
                have MP7 := Lib.hid (MP6.out.next hF hS)
                have TX7 := Lib.hid (TX6.out.next hF hS)
                have T07 := Lib.hid ((cell_frA TX6.out hF 0).trans T06.out)
                have T17 := Lib.hid ((cell_frA TX6.out hF 1).trans T16.out)
                have T27 := Lib.hid ((cell_frA TX6.out hF 2).trans T26.out)
                clear hIS hF hS C7 t0 t1 t2
                have C6 := mark_w IS7.out G'.out (by omega) xi
                have t1 := T17.out
                go_wp2_with fail
                refine C6.mono ?_
                rintro e w8 ⟨aw8, nw8, cw8, bw8, rfl, hF⟩
                have T08 := Lib.hid (cell_fr' T07.out hF)
                have T18 := Lib.hid (cell_fr' T17.out hF)
                have T28 := Lib.hid (cell_fr' T27.out hF)
                have TX8 := Lib.hid (TX7.out.fr hF)
                have F8 := Lib.hid (F7.out.trans hF (by simp))
                have MP8 := Lib.hid (MP7.out.fr hF)
                have IS8 := Lib.hid (IS7.out.fr hF)
                clear hF C6 t1
                have hrT := MP8.out.rdT xi
                obtain ⟨tv, htv⟩ : ∃ v, (tm xi).getD 0 = v := ⟨_, rfl⟩
                rw [htv] at hrT
                clear htv
                have hrC := MP8.out.rdC tv xa
                obtain ⟨cq, hcq⟩ : ∃ c, (callsM p.Cs p.Cs.length (tv, xa)).getD ⟨0, 0, 0, false⟩ = c := ⟨_, rfl⟩
                obtain ⟨cs, hcs⟩ : ∃ b, (callsM p.Cs p.Cs.length (tv, xa)).isSome = b := ⟨_, rfl⟩
                rw [hcq, hcs] at hrC
                clear hcq hcs
                unfold CallD.val at hrC
                have t1 := T18.out
                have t2 := T28.out
                go_wp2_with (first | ((with_reducible refine wpList_var_agg rfl rfl 97 (.tmp 21) (.tmp 104) rfl rfl 4 zero97 [.int .i64 cq.of_, .int .i64 cq.at_, .int .i64 cq.to_, .bool cq.many] rfl ?_ ?_ ?_ ?_); (intro u hu; simp at hu; rcases hu with rfl | rfl | rfl | rfl <;> rfl); exact rfl; exact rfl))
                intro w9 hr9 hs9 hf9
                have hF := hf9
                have T09 := Lib.hid (cell_fr' T08.out hF)
                have T19 := Lib.hid (cell_fr' T18.out hF)
                have T29 := Lib.hid (cell_fr' T28.out hF)
                have TX9 := Lib.hid (TX8.out.fr hF)
                have F9 := Lib.hid (F8.out.trans hF (by simp))
                have MP9 := Lib.hid (MP8.out.fr hF)
                have IS9 := Lib.hid (IS8.out.fr hF)
                have u2 := hr9.cell 2
                have u3 := hr9.cell 3
                obtain ⟨ux, hux⟩ : ∃ b, w8.heap.size = b := ⟨_, rfl⟩
                rw [hux] at u2 u3 ⊢
                have U2 := Lib.hid u2
                have U3 := Lib.hid u3
                clear hr9 hs9 hf9 hF hux u2 u3 t1 t2 hrT hrC
                have t0 := T09.out
                have t1 := T19.out
                have hrF := MP9.out.rdF xi
                rw [FM.out] at hrF
                go_wp2_with (first | ((with_reducible refine wpList_var_agg rfl rfl 98 (.tmp 23) (.tmp 192) rfl rfl 2 zero98 [.int .i64 par, .int .i64 ey] rfl ?_ ?_ ?_ ?_); (intro u hu; simp at hu; rcases hu with rfl | rfl <;> rfl); exact rfl; exact rfl))
                intro w10 hr10 hs10 hf10
                have hF := hf10
                have T010 := Lib.hid (cell_fr' T09.out hF)
                have T110 := Lib.hid (cell_fr' T19.out hF)
                have T210 := Lib.hid (cell_fr' T29.out hF)
                have TX10 := Lib.hid (TX9.out.fr hF)
                have F10 := Lib.hid (F9.out.trans hF (by simp))
                have MP10 := Lib.hid (MP9.out.fr hF)
                have IS10 := Lib.hid (IS9.out.fr hF)
                have v0 := hr10.cell 0
                have v1 := hr10.cell 1
                obtain ⟨vx, hvx⟩ : ∃ b, w9.heap.size = b := ⟨_, rfl⟩
                rw [hvx] at v0 v1 ⊢
                have hD := (Fr.refl [] w10).drew
                have hrX := (MP10.out.fr hD).rdX par ey
                rw [CV.out] at hrX
                have hwr : IntKind.i64.wrap (cv - 1) = cv - 1 := wrap_in (by omega)
                obtain ⟨ev0, st, w11, w12, run1, hf1, run2, run3, hm2, hf2, hmz⟩ := (MP10.out.fr hD).enX par ey (cv - 1)
                rw [CV.out] at run2
                have run1' : (Instr.mapEntry 100 (.map (some xb)) (.agg #[.int .i64 par, .int .i64 ey])).run Try.prog w10.drew = .ok (.tuple #[ev0, .int .i64 (st : Int)]) w11 := run1
                have run3' : (Instr.entryStore 100 (.map (some xb)) (.int .i64 (st : Int)) (.int .i64 (cv - 1))).run Try.prog w11 = .ok () w12 := run3
                have KP0 := Lib.hid (⟨cell_fr' v0 hD, cell_fr' v1 hD, hrX⟩ : w10.drew.cell? ⟨vx, 0, none⟩ = some (.int .i64 par) ∧ w10.drew.cell? ⟨vx, 1, none⟩ = some (.int .i64 ey) ∧ (Instr.lookup 100 (.map (some xb)) (.agg #[.int .i64 par, .int .i64 ey]) false).run Try.prog w10.drew = .ok (.int .i64 cv) w10.drew)
                have KP1 := Lib.hid (⟨cell_frZ (cell_fr' v0 hD) hf1 hmz, cell_frZ (cell_fr' v1 hD) hf1 hmz, run2⟩ : w11.cell? ⟨vx, 0, none⟩ = some (.int .i64 par) ∧ w11.cell? ⟨vx, 1, none⟩ = some (.int .i64 ey) ∧ (Instr.lookup 100 (.map (some xb)) (.agg #[.int .i64 par, .int .i64 ey]) false).run Try.prog w11 = .ok (.int .i64 cv) w11)
                have Z0 := Lib.hid (cell_frZ (cell_fr' v0 hD) hf2 hmz)
                have Z1 := Lib.hid (cell_frZ (cell_fr' v1 hD) hf2 hmz)
                have IS12 := Lib.hid ((IS10.out.fr hD).frM hf2 hmz)
                have hxW : W.heap.size ≤ xb := by have := MP10.out.cm; have := MP10.out.tc; omega
                have F12 := Lib.hid ((F10.out.trans hD (by simp)).trans hf2 (fun y hy => .inr (by simp at hy; rw [hy]; exact Nat.le_trans hxW (Nat.le_refl _))))
                have MP12 := Lib.hid hm2
                clear hr10 hs10 hf10 hF hvx v0 v1 hD hrX run1 run3 run2 hf1 hf2 hm2 hmz hrF t0 t1 hxW
                go_wp2_with fail
                refine wp_region_last (S := (fun W' => W'.cell? ⟨vx, 0, none⟩ = some (.int .i64 par) ∧ W'.cell? ⟨vx, 1, none⟩ = some (.int .i64 ey) ∧ (Instr.lookup 100 (.map (some xb)) (.agg #[.int .i64 par, .int .i64 ey]) false).run Try.prog W' = .ok (.int .i64 cv) W')) 6 (by kernel_rfl) KP0.out (fun hHeld => ?_)
                refine wpAnyL_take (i := 0) (v := ?_) rfl (by kernel_rfl) (by kernel_rfl) (by kernel_rfl) (by kernel_rfl) (fun _ _ _ h => h) (Or.inl ⟨rfl, ?_⟩) hHeld ?_
                rotate_left
                · (intro w hSw; (try dsimp only at hSw); go_simp; try (with_reducible rfl))
                simp only [List.getElem_toArray, List.getElem_cons_succ, List.getElem_cons_zero, Act.put, List.setIfInBounds_toArray, List.set_cons_zero, List.set_cons_succ]
                refine wpAnyL_take (i := 1) (v := ?_) rfl (by kernel_rfl) (by kernel_rfl) (by kernel_rfl) (by kernel_rfl) (fun _ _ _ h => h) (Or.inl ⟨rfl, ?_⟩) hHeld ?_
                rotate_left
                · (intro w hSw; (try dsimp only at hSw); go_simp; try (with_reducible rfl))
                simp only [List.getElem_toArray, List.getElem_cons_succ, List.getElem_cons_zero, Act.put, List.setIfInBounds_toArray, List.set_cons_zero, List.set_cons_succ]
                refine wpAnyL_take (i := 2) (v := ?_) rfl (by kernel_rfl) (by kernel_rfl) (by kernel_rfl) (by kernel_rfl) (fun _ _ _ h => h) (Or.inl ⟨rfl, ?_⟩) hHeld ?_
                rotate_left
                · (intro w hSw; (try dsimp only at hSw); go_simp; try (with_reducible rfl))
                simp only [List.getElem_toArray, List.getElem_cons_succ, List.getElem_cons_zero, Act.put, List.setIfInBounds_toArray, List.set_cons_zero, List.set_cons_succ]
                refine wpAnyL_take (i := 3) (v := ?_) rfl (by kernel_rfl) (by kernel_rfl) (by kernel_rfl) (by kernel_rfl) (fun _ _ _ h => h) (Or.inl ⟨rfl, ?_⟩) hHeld ?_
                rotate_left
                · (intro w hSw; (try dsimp only at hSw); go_simp; try (with_reducible rfl))
                simp only [List.getElem_toArray, List.getElem_cons_succ, List.getElem_cons_zero, Act.put, List.setIfInBounds_toArray, List.set_cons_zero, List.set_cons_succ]
                refine wpAnyL_ready (rs := [4]) (by kernel_rfl) (by simp) ?_
                refine AllReadyL.cons rfl (fun K hK => ?_) AllReadyL.nil
                simp only [List.getElem_toArray, List.getElem_cons_succ, List.getElem_cons_zero]
                go_simp
                refine hK.out _ _ (KP1.out) (fun hHeld => ?_)
                clear hK K
                try simp only [List.getElem_toArray, List.getElem_cons_succ, List.getElem_cons_zero, Act.put, List.setIfInBounds_toArray, List.set_cons_zero, List.set_cons_succ]
                refine wpAnyL_take (i := 5) (v := ?_) rfl (by kernel_rfl) (by kernel_rfl) (by kernel_rfl) (by kernel_rfl) (fun _ _ _ h => h) (Or.inl ⟨rfl, ?_⟩) hHeld ?_
                rotate_left
                · (intro w hSw; (try dsimp only at hSw); go_simp; try (with_reducible rfl))
                simp only [List.getElem_toArray, List.getElem_cons_succ, List.getElem_cons_zero, Act.put, List.setIfInBounds_toArray, List.set_cons_zero, List.set_cons_succ]
                refine wpAnyL_ready (rs := [6]) (by kernel_rfl) (by simp) ?_
                refine AllReadyL.end_ rfl (fun K hK => ?_)
                simp only [List.getElem_toArray, List.getElem_cons_succ, List.getElem_cons_zero]
                go_simp
                refine hK.out _ _ ?_
                clear hK K
                try simp only [List.getElem_toArray, List.getElem_cons_succ, List.getElem_cons_zero, Act.put, List.setIfInBounds_toArray, List.set_cons_zero, List.set_cons_succ]
                refine wpAnyL_done (by kernel_rfl) ?_ _
                have z0 := Z0.out
                have z1 := Z1.out
                clear run1' run3' hHeld KP0 KP1 hwr
                obtain ⟨zz, hz1, hz2⟩ := OF2.out
                have C10 := mark_s IS12.out G'.out (by omega) hz1
                rw [hz2] at C10
                obtain ⟨ml, hml⟩ : ∃ n, M.length = n := ⟨_, rfl⟩
                unfold MarkS at C10
                rw [hml] at C10 hey2
                have ZB := Lib.hid hml
                clear hz1 hz2 hml
                go_wp2_with fail
                refine C10.mono ?_
                rintro e w13 ⟨am, cm, rfl, hMm, _, hF⟩
                have F13 := Lib.hid (F12.out.trans hF (by simp))
                have MP13 := Lib.hid (MP12.out.fr hF)
                have IS13 := Lib.hid (IS12.out.fr hF)
                obtain ⟨gb, go', rfl, hgb, hgc⟩ := hMm.2.at_ (by omega)
                have a0 := hgc ey hey2 1 _ rfl
                rw [AGE.out] at a0
                have z1 := cell_fr' Z1.out hF
                have dm : decide (ey < ml) = true := decide_eq_true hey2
                have dn : decide ((ey : Int) ≥ (ml : Int)) = false := decide_eq_false (by omega)
                clear hMm hgb hgc hF C10 z0
                go_wp2_with fail
                go_roundg (N - (j + 1))
                case measure => omega
                case rel => exact ⟨j + 1, S7, P', tm, _, fm, rfl, by omega, rfl, IS13.out, (by rw [show 1 + (j + 1) = 1 + j + 1 by omega]; exact GJ2.out), by rw [HC4.out, PC.out], SI'.out, MP13.out, HS7.out, F13.out⟩
              · have HN1 := Lib.hid (show q.1 = -1 by rw [← HQ.out]; exact rest_num hk01)
                have SR := Lib.hid (show SingI q.2.2 tm ch fm by rw [← HQ.out]; exact sing_rest SI.out hk01 hk2)
                obtain ⟨q1, q2, P'⟩ := q
                simp only at hE HN1 SR CA HC3 G' GJ'
                subst hE
                have hq1 := HN1.out
                subst hq1
                have hkc : xk < 0 ∨ 3 ≤ xk := by omega
                have b2 : (xk == 2) = false := by rw [beq_eq_false_iff_ne]; exact hk2
                clear hk01 hk2 HN1
                have C6 := mark_w IS5.out GP.out (by omega) xi
                have t1 := T15.out
                go_wp2_with fail
                refine C6.mono ?_
                rintro e w6 ⟨aw6, nw6, cw6, bw6, rfl, hF⟩
                have T06 := Lib.hid (cell_fr' T05.out hF)
                have T16 := Lib.hid (cell_fr' T15.out hF)
                have T26 := Lib.hid (cell_fr' T25.out hF)
                have TX6 := Lib.hid (TX5.out.fr hF)
                have F6 := Lib.hid (F5.out.trans hF (by simp))
                have MP6 := Lib.hid (MP5.out.fr hF)
                have IS6 := Lib.hid (IS5.out.fr hF)
                clear hF C6 t1
                have C7 := CA.out w6 IS6.out
                have t0 := T06.out
                have t1 := T16.out
                have t2 := T26.out
                go_wp2_with fail
                refine C7.mono ?_
                rintro e w7 ⟨rfl, S7, hIS, hF, hS⟩
                have IS7 := Lib.hid hIS
                have HS7 := Lib.hid (fun y hy => (by rcases hS y hy with h | h; exact HS.out y h; exact Nat.le_trans F6.out.size h) : ∀ y ∈ S7, W.heap.size ≤ y)
                have F7 := Lib.hid (F6.out.trans hF (fun y hy => .inr (HS.out y hy)))
                have MP7 := Lib.hid (MP6.out.next hF hS)
                have TX7 := Lib.hid (TX6.out.next hF hS)
                have T07 := Lib.hid ((cell_frA TX6.out hF 0).trans T06.out)
                have T17 := Lib.hid ((cell_frA TX6.out hF 1).trans T16.out)
                have T27 := Lib.hid ((cell_frA TX6.out hF 2).trans T26.out)
                clear hIS hF hS C7 t0 t1 t2
                have C6 := mark_w IS7.out G'.out (by omega) xi
                have t1 := T17.out
                go_wp2_with fail
                refine C6.mono ?_
                rintro e w8 ⟨aw8, nw8, cw8, bw8, rfl, hF⟩
                have T08 := Lib.hid (cell_fr' T07.out hF)
                have T18 := Lib.hid (cell_fr' T17.out hF)
                have T28 := Lib.hid (cell_fr' T27.out hF)
                have TX8 := Lib.hid (TX7.out.fr hF)
                have F8 := Lib.hid (F7.out.trans hF (by simp))
                have MP8 := Lib.hid (MP7.out.fr hF)
                have IS8 := Lib.hid (IS7.out.fr hF)
                clear hF C6 t1
                have hrT := MP8.out.rdT xi
                obtain ⟨tv, htv⟩ : ∃ v, (tm xi).getD 0 = v := ⟨_, rfl⟩
                rw [htv] at hrT
                clear htv
                have hrC := MP8.out.rdC tv xa
                obtain ⟨cq, hcq⟩ : ∃ c, (callsM p.Cs p.Cs.length (tv, xa)).getD ⟨0, 0, 0, false⟩ = c := ⟨_, rfl⟩
                obtain ⟨cs, hcs⟩ : ∃ b, (callsM p.Cs p.Cs.length (tv, xa)).isSome = b := ⟨_, rfl⟩
                rw [hcq, hcs] at hrC
                clear hcq hcs
                unfold CallD.val at hrC
                have t1 := T18.out
                have t2 := T28.out
                go_wp2_with (first | ((with_reducible refine wpList_var_agg rfl rfl 97 (.tmp 21) (.tmp 104) rfl rfl 4 zero97 [.int .i64 cq.of_, .int .i64 cq.at_, .int .i64 cq.to_, .bool cq.many] rfl ?_ ?_ ?_ ?_); (intro u hu; simp at hu; rcases hu with rfl | rfl | rfl | rfl <;> rfl); exact rfl; exact rfl))
                intro w9 hr9 hs9 hf9
                have hF := hf9
                have T09 := Lib.hid (cell_fr' T08.out hF)
                have T19 := Lib.hid (cell_fr' T18.out hF)
                have T29 := Lib.hid (cell_fr' T28.out hF)
                have TX9 := Lib.hid (TX8.out.fr hF)
                have F9 := Lib.hid (F8.out.trans hF (by simp))
                have MP9 := Lib.hid (MP8.out.fr hF)
                have IS9 := Lib.hid (IS8.out.fr hF)
                have u2 := hr9.cell 2
                have u3 := hr9.cell 3
                obtain ⟨ux, hux⟩ : ∃ b, w8.heap.size = b := ⟨_, rfl⟩
                rw [hux] at u2 u3 ⊢
                have U2 := Lib.hid u2
                have U3 := Lib.hid u3
                clear hr9 hs9 hf9 hF hux u2 u3 t1 t2 hrT hrC
                have t0 := T09.out
                rcases hkc with hkc | hkc
                · have e1 : decide (xk ≤ 1) = true := decide_eq_true (by omega)
                  have e2 : decide (xk ≥ 0) = false := decide_eq_false (by omega)
                  clear hkc
                  go_wp2_with fail
                  go_roundg (N - (j + 1))
                  case measure => omega
                  case rel => exact ⟨j + 1, S7, P', tm, ch, fm, rfl, by omega, rfl, IS9.out, (by rw [show 1 + (j + 1) = 1 + j + 1 by omega]; exact GJ'.out), by rw [HC3.out, PC.out], SR.out, MP9.out, HS7.out, F9.out⟩
                · have e1 : decide (xk ≤ 1) = false := decide_eq_false (by omega)
                  clear hkc
                  go_wp2_with fail
                  go_roundg (N - (j + 1))
                  case measure => omega
                  case rel => exact ⟨j + 1, S7, P', tm, ch, fm, rfl, by omega, rfl, IS9.out, (by rw [show 1 + (j + 1) = 1 + j + 1 by omega]; exact GJ'.out), by rw [HC3.out, PC.out], SR.out, MP9.out, HS7.out, F9.out⟩
          · have HE := Lib.hid hE
            have HP' := Lib.hid (show q.2.2 = P by rw [← HQ.out]; exact actF_err (n := 81) GP.out (by rw [HQ.out]; exact hE))
            obtain ⟨q1, q2, P'⟩ := q
            simp only at HE HP' CA HC3 G' GJ'
            have gE : (q2 != 0) = true := by simpa using HE.out
            clear hE
            have C6 := mark_w IS5.out GP.out (by omega) xi
            have t1 := T15.out
            go_wp2_with fail
            refine C6.mono ?_
            rintro e w6 ⟨aw6, nw6, cw6, bw6, rfl, hF⟩
            have T06 := Lib.hid (cell_fr' T05.out hF)
            have T16 := Lib.hid (cell_fr' T15.out hF)
            have T26 := Lib.hid (cell_fr' T25.out hF)
            have TX6 := Lib.hid (TX5.out.fr hF)
            have F6 := Lib.hid (F5.out.trans hF (by simp))
            have MP6 := Lib.hid (MP5.out.fr hF)
            have IS6 := Lib.hid (IS5.out.fr hF)
            clear hF C6 t1
            have C7 := CA.out w6 IS6.out
            have t0 := T06.out
            have t1 := T16.out
            have t2 := T26.out
            go_wp2_with fail
            refine C7.mono ?_
            rintro e w7 ⟨rfl, S7, hIS, hF, hS⟩
            have IS7 := Lib.hid hIS
            have HS7 := Lib.hid (fun y hy => (by rcases hS y hy with h | h; exact HS.out y h; exact Nat.le_trans F6.out.size h) : ∀ y ∈ S7, W.heap.size ≤ y)
            have F7 := Lib.hid (F6.out.trans hF (fun y hy => .inr (HS.out y hy)))
            have MP7 := Lib.hid (MP6.out.next hF hS)
            have TX7 := Lib.hid (TX6.out.next hF hS)
            have T07 := Lib.hid ((cell_frA TX6.out hF 0).trans T06.out)
            have T17 := Lib.hid ((cell_frA TX6.out hF 1).trans T16.out)
            have T27 := Lib.hid ((cell_frA TX6.out hF 2).trans T26.out)
            clear hIS hF hS C7 t0 t1 t2
            have C6 := mark_w IS7.out G'.out (by omega) xi
            have t1 := T17.out
            go_wp2_with fail
            refine C6.mono ?_
            rintro e w8 ⟨aw8, nw8, cw8, bw8, rfl, hF⟩
            have T08 := Lib.hid (cell_fr' T07.out hF)
            have T18 := Lib.hid (cell_fr' T17.out hF)
            have T28 := Lib.hid (cell_fr' T27.out hF)
            have TX8 := Lib.hid (TX7.out.fr hF)
            have F8 := Lib.hid (F7.out.trans hF (by simp))
            have MP8 := Lib.hid (MP7.out.fr hF)
            have IS8 := Lib.hid (IS7.out.fr hF)
            clear hF C6 t1
            have hrT := MP8.out.rdT xi
            obtain ⟨tv, htv⟩ : ∃ v, (tm xi).getD 0 = v := ⟨_, rfl⟩
            rw [htv] at hrT
            clear htv
            have hrC := MP8.out.rdC tv xa
            obtain ⟨cq, hcq⟩ : ∃ c, (callsM p.Cs p.Cs.length (tv, xa)).getD ⟨0, 0, 0, false⟩ = c := ⟨_, rfl⟩
            obtain ⟨cs, hcs⟩ : ∃ b, (callsM p.Cs p.Cs.length (tv, xa)).isSome = b := ⟨_, rfl⟩
            rw [hcq, hcs] at hrC
            clear hcq hcs
            unfold CallD.val at hrC
            have t1 := T18.out
            have t2 := T28.out
            go_wp2_with (first | ((with_reducible refine wpList_var_agg rfl rfl 97 (.tmp 21) (.tmp 104) rfl rfl 4 zero97 [.int .i64 cq.of_, .int .i64 cq.at_, .int .i64 cq.to_, .bool cq.many] rfl ?_ ?_ ?_ ?_); (intro u hu; simp at hu; rcases hu with rfl | rfl | rfl | rfl <;> rfl); exact rfl; exact rfl))
            intro w9 hr9 hs9 hf9
            have hF := hf9
            have T09 := Lib.hid (cell_fr' T08.out hF)
            have T19 := Lib.hid (cell_fr' T18.out hF)
            have T29 := Lib.hid (cell_fr' T28.out hF)
            have TX9 := Lib.hid (TX8.out.fr hF)
            have F9 := Lib.hid (F8.out.trans hF (by simp))
            have MP9 := Lib.hid (MP8.out.fr hF)
            have IS9 := Lib.hid (IS8.out.fr hF)
            have u2 := hr9.cell 2
            have u3 := hr9.cell 3
            obtain ⟨ux, hux⟩ : ∃ b, w8.heap.size = b := ⟨_, rfl⟩
            rw [hux] at u2 u3 ⊢
            have U2 := Lib.hid u2
            have U3 := Lib.hid u3
            clear hr9 hs9 hf9 hF hux u2 u3 t1 t2 hrT hrC
            go_wp2_with fail
            go_roundg (N - (j + 1))
            case measure => omega
            case rel => exact ⟨j + 1, S7, P', tm, ch, fm, rfl, by omega, rfl, IS9.out, (by rw [show 1 + (j + 1) = 1 + j + 1 by omega]; exact GJ'.out), by rw [HC3.out, PC.out], by rw [HP'.out]; exact SI.out, MP9.out, HS7.out, F9.out⟩
        · have hjN : j = N := by omega
          by_cases h1 : j < len1
          · have d1 : decide (j < len1) = true := decide_eq_true h1
            have d2 : decide ((j : Int) < 80) = false := decide_eq_false (by have := HN.out; omega)
            clear hjn hjN h1
            go_wp2_with fail
            go_ret
            exact ⟨rfl, F.out.nil_below⟩
          · have d1 : decide (j < len1) = false := decide_eq_false h1
            clear hjn hjN h1
            go_wp2_with fail
            go_ret
            exact ⟨rfl, F.out.nil_below⟩
end Go.Proofs.Ytclkahggfdnpgaa

