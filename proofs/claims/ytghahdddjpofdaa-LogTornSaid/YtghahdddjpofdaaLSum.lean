/- A record's sum: the two functions that reckon it. -/
import Derived.Test.YtghahdddjpofdaaProg
import Derived.Test.YtghahdddjpofdaaMem
import Derived.Deep.LoopGhost
set_option linter.unusedVariables false
set_option linter.unusedSimpArgs false
namespace Go.Proofs.Ytghahdddjpofdaa
open Go.RowKit

def stepBit (n : Nat) : Nat := (n / 2) ^^^ (3988292384 * (n % 2))
def steps : Nat → Nat → Nat
  | 0, n => n
  | k + 1, n => steps k (stepBit n)
def crcByte (n : Nat) (c : UInt8) : Nat := steps 8 (n ^^^ c.toNat)

theorem stepBit_lt (n : Nat) (h : n < 4294967296) : stepBit n < 4294967296 := Nat.xor_lt_two_pow (n := 32) (by omega) (by omega)
theorem steps_lt (k : Nat) : ∀ n, n < 4294967296 → steps k n < 4294967296 := by
  induction k with
  | zero => exact fun n h => h
  | succ k ih => exact fun n h => ih _ (stepBit_lt n h)
theorem crcByte_lt (n : Nat) (c : UInt8) (h : n < 4294967296) : crcByte n c < 4294967296 := by
  have := c.toNat_lt
  exact steps_lt 8 _ (Nat.xor_lt_two_pow (n := 32) h (by omega))
def crcL (l : List UInt8) : Nat := l.foldl crcByte 4294967295
def sumL (l : List UInt8) : Nat := 4294967295 - crcL l
theorem crcL_snoc (l : List UInt8) (c : UInt8) : crcL (l ++ [c]) = crcByte (crcL l) c := by simp [crcL]
theorem foldl_lt (l : List UInt8) : ∀ n, n < 4294967296 → l.foldl crcByte n < 4294967296 := by
  induction l with
  | nil => exact fun n h => h
  | cons c l ih => exact fun n h => ih _ (crcByte_lt n c h)
theorem crcL_lt (l : List UInt8) : crcL l < 4294967296 := foldl_lt l _ (by omega)
theorem sumL_lt (l : List UInt8) : sumL l < 4294967296 := by unfold sumL; omega

set_option maxHeartbeats 400000 in
theorem sum1_any (g n : Nat) (c : UInt8) (w : World) (h : Row w g [.int .u32 n] 29) (hn : n < 4294967296) :
    Calls Try.prog 18 #[.int .u8 c.toNat, .pointer (some ⟨g, 0, none⟩)] w fun e w' => e = .returned (.tuple #[]) ∧ Row w' g [.int .u32 (crcByte n c)] 29 ∧ Fr [g] w w' := by
  have c0 := h.cell 0
  have f0 := h.frozen 0
  simp at c0
  have H := Lib.hid h
  clear h
  have hc := c.toNat_lt
  have hx : bits .xor .u32 (n : Int) (c.toNat : Int) = ((n ^^^ c.toNat : Nat) : Int) := u32_xor_nat _ _ hn (by omega)
  have hb : n ^^^ c.toNat < 4294967296 := Nat.xor_lt_two_pow (n := 32) hn (by omega)
  have hdef : crcByte n c = steps 8 (n ^^^ c.toNat) := rfl
  have HD := Lib.hid hdef
  clear hdef hn
  generalize n ^^^ c.toNat = m at hx hb HD
  go_enter Try.func18, Try.ntmps18
  go_wp2
  go_loopg [8] 8 (fun k i wr => ∃ (j q : Nat), k = 8 - j ∧ j ≤ 8 ∧ i = .int .i64 j ∧ q < 4294967296 ∧ steps (8 - j) q = crcByte n c ∧ Row wr g [.int .u32 q] 29 ∧ Fr [g] w wr)
  case atStart => exact ⟨0, m, rfl, by omega, rfl, hb, by rw [HD.out], H.out.setCell 0 _, (Fr.refl _ _).setCell (by simp) _⟩
  case round =>
    obtain ⟨j, q, rfl, hj, rfl, hq, hst, hR, hF⟩ := hrel
    have R := Lib.hid hR
    have F := Lib.hid hF
    have ST := Lib.hid hst
    have q0 := hR.cell 0
    have qf := hR.frozen 0
    simp at q0
    clear hR hF hst hx c0 f0
    by_cases h8 : j < 8
    · have hd : decide ((j : Int) < 8) = true := by rw [decide_eq_true_iff]; omega
      have ha : bits .and .u32 (q : Int) 1 = ((q % 2 : Nat) : Int) := by
        have := u32_and_nat q 1 hq (by omega)
        rw [nat_mask1] at this
        exact this
      have hs : bits .xor .u32 ((q : Int) / 2) (3988292384 * ((q : Int) % 2)) = ((stepBit q : Nat) : Int) := by
        have := u32_xor_nat (q / 2) (3988292384 * (q % 2)) (by omega) (by omega)
        rw [show (((q / 2 : Nat)) : Int) = (q : Int) / 2 by omega, show (((3988292384 * (q % 2) : Nat)) : Int) = 3988292384 * ((q : Int) % 2) by omega] at this
        exact this
      have hsb := stepBit_lt q hq
      go_wp2
      go_roundg (8 - (j + 1))
      case measure => omega
      case rel =>
        refine ⟨j + 1, stepBit q, rfl, by omega, rfl, hsb, ?_, R.out.setCell 0 _, F.out.setCell (by simp) _⟩
        rw [← ST.out, show 8 - j = (8 - (j + 1)) + 1 by omega]
        rfl
    · have hd : decide ((j : Int) < 8) = false := by rw [decide_eq_false_iff_not]; omega
      obtain rfl : j = 8 := by omega
      go_wp2
      go_end0
      exact ⟨rfl, by rw [← ST.out]; exact R.out, F.out⟩
theorem xor_ones (x : Nat) (h : x < 4294967296) : 4294967295 ^^^ x = 4294967295 - x := by
  have h1 : (BitVec.allOnes 32 ^^^ BitVec.ofNat 32 x).toNat = 4294967295 ^^^ x := by
    rw [BitVec.toNat_xor, BitVec.toNat_ofNat, Nat.mod_eq_of_lt h]
    rfl
  have h2 : (BitVec.allOnes 32 ^^^ BitVec.ofNat 32 x) = ~~~ BitVec.ofNat 32 x := BitVec.allOnes_xor
  rw [← h1, h2, BitVec.toNat_not, BitVec.toNat_ofNat, Nat.mod_eq_of_lt h]
theorem not_u32 (x : Nat) (h : x < 4294967296) : bits .xor .u32 IntKind.u32.max (x : Int) = ((4294967295 - x : Nat) : Int) := by
  have e : IntKind.u32.max = ((4294967295 : Nat) : Int) := rfl
  rw [e, u32_xor_nat _ _ (by omega) h, xor_ones x h]
theorem take_snoc (s : ByteArray) (k : Nat) (h : k < s.size) : s.data.toList.take (k + 1) = s.data.toList.take k ++ [s[k]] := by
  rw [List.take_succ_eq_append_getElem (by simpa using h)]; rfl
set_option maxHeartbeats 400000 in
theorem sum_any (s : ByteArray) (w : World) (hs : s.size ≤ 140737488351232) :
    Calls Try.prog 12 #[.string s] w fun e w' => e = .returned (.int .u32 (sumL s.data.toList)) ∧ Fr [] w w' := by
  go_enter Try.func12, Try.ntmps12
  go_wp2_with ((with_reducible refine wpList_str_bytes rfl 9 34 5 (.tmp 8) rfl Try.underlying9 Try.underlying34 Try.underlying5 s ?_ ?_); exact rfl)
  intro w1 c hc hsz hf
  have hg : Row w1 w.heap.size [.int .u32 ((4294967295 : Nat) : Int)] 29 := (Row.new w [.int .u32 4294967295] 29).fr hf (by simp)
  have F0 := Lib.hid ((Fr.alloc (Fr.refl [] w) (.cells #[.int .u32 4294967295] 29)).trans (T := []) hf (by simp))
  have G := Lib.hid hg
  have HC := Lib.hid hc
  have hlt : w.heap.size + 1 < w1.heap.size := by omega
  clear hc hsz hf hg
  go_wp2_with fail
  go_loopg [11] s.size (fun k i wr => ∃ j : Nat, k = s.size - j ∧ j ≤ s.size ∧ i = .int .i64 j ∧ Row wr w.heap.size [.int .u32 (crcL (s.data.toList.take j))] 29 ∧ Fr [w.heap.size] w1 wr)
  case atStart => exact ⟨0, rfl, by omega, rfl, by simpa [crcL] using G.out, Fr.refl _ _⟩
  case round =>
    obtain ⟨j, rfl, hj, rfl, hR, hF⟩ := hrel
    have R := Lib.hid hR
    have F := Lib.hid hF
    have hcr := crcL_lt (s.data.toList.take j)
    by_cases hjs : j < s.size
    · have hd : decide ((j : Int) < s.size) = true := by rw [decide_eq_true_iff]; omega
      have hc := HC.out j hjs
      have hb : w1.heap[w.heap.size + 1]? = wr.heap[w.heap.size + 1]? := (hF.block _ hlt (by simp)).symm
      rw [World.cell?_of_block (w := wr) (a := ⟨w.heap.size + 1, j, none⟩) hb] at hc
      have hsn := crcL_snoc (s.data.toList.take j) s[j]
      rw [← take_snoc s j hjs] at hsn
      have hsj : (s.data[j]?.getD 0) = s[j] := by
        have : j < s.data.size := hjs
        rw [Array.getElem?_eq_getElem this]
        rfl
      rw [hsj] at hc
      have HSN := Lib.hid hsn
      have C1 := sum1_any w.heap.size (crcL (s.data.toList.take j)) s[j] wr hR hcr
      clear hb hsn hR hF hsj
      generalize s[j] = x at hc C1 HSN
      go_wp2_with (go_at_call 18; refine C1.mono ?_)
      rintro e w2 ⟨rfl, hR2, hF2⟩
      have R2 := Lib.hid hR2
      have F2 := Lib.hid (F.out.trans hF2 (by simp))
      clear hR2 hF2 C1
      go_wp2_with fail
      go_roundg (s.size - (j + 1))
      case measure => omega
      case rel => exact ⟨j + 1, rfl, by omega, rfl, by rw [HSN.out]; exact R2.out, F2.out⟩
    · have hd : decide ((j : Int) < s.size) = false := by rw [decide_eq_false_iff_not]; omega
      obtain rfl : j = s.size := by omega
      have hfull : s.data.toList.take s.size = s.data.toList := List.take_of_length_le (Nat.le_refl _)
      have c0 := hR.cell 0
      simp only [hfull] at c0
      rw [hfull] at hcr
      have c0 : wr.cell? ⟨w.heap.size, 0, none⟩ = some (.int .u32 (crcL s.data.toList)) := c0
      have hxx := not_u32 (crcL s.data.toList) hcr
      clear hR hF hfull
      go_wp2_with fail
      go_ret
      exact ⟨rfl, F0.out.trans F.out (by simp)⟩
theorem ret_u32 {a b : Int} (h : a = b) : Ending.returned (.int .u32 a) = Ending.returned (.int .u32 b) := by rw [h]
set_option maxHeartbeats 400000 in
theorem rsum_any (s : ByteArray) (w : World) (hs : s.size ≤ 140737488351232) :
    Calls Try.prog 13 #[.string s] w fun e w' => e = .returned (.int .u32 (sumL s.data.toList)) ∧ w = w' := by
  go_enter Try.func13, Try.ntmps13
  go_wp2
  go_loopg [3, 4] s.size (fun k n i wr => ∃ j : Nat, k = s.size - j ∧ j ≤ s.size ∧ i = .int .i64 j ∧ n = .int .u32 (crcL (s.data.toList.take j)) ∧ w = wr)
  case atStart => exact ⟨0, rfl, by omega, rfl, by simp [crcL], rfl⟩
  case round =>
    obtain ⟨j, rfl, hj, rfl, rfl, rfl⟩ := hrel
    have hcr := crcL_lt (s.data.toList.take j)
    by_cases hjs : j < s.size
    · have hd : decide ((j : Int) < s.size) = true := by rw [decide_eq_true_iff]; omega
      have hsn := crcL_snoc (s.data.toList.take j) s[j]
      rw [← take_snoc s j hjs] at hsn
      have hc := s[j].toNat_lt
      have hx : bits .xor .u32 ((crcL (s.data.toList.take j) : Nat) : Int) (s[j].toNat : Int) = (((crcL (s.data.toList.take j)) ^^^ s[j].toNat : Nat) : Int) := u32_xor_nat _ _ hcr (by omega)
      have hb : (crcL (s.data.toList.take j)) ^^^ s[j].toNat < 4294967296 := Nat.xor_lt_two_pow (n := 32) hcr (by omega)
      have hdef : crcByte (crcL (s.data.toList.take j)) s[j] = steps 8 ((crcL (s.data.toList.take j)) ^^^ s[j].toNat) := rfl
      rw [← hsn] at hdef
      have HD := Lib.hid hdef
      clear hdef hsn
      generalize (crcL (s.data.toList.take j)) ^^^ s[j].toNat = m at hx hb HD
      generalize hgoal : crcL (s.data.toList.take (j + 1)) = goal at HD
      have HG := Lib.hid hgoal
      clear hgoal
      go_wp2
      go_loopg [3, 5] 8 (fun k n i wq => ∃ (a q : Nat), k = 8 - a ∧ a ≤ 8 ∧ i = .int .i64 a ∧ n = .int .u32 q ∧ q < 4294967296 ∧ steps (8 - a) q = goal ∧ w = wq)
      case atStart => exact ⟨0, m, rfl, by omega, rfl, rfl, hb, HD.out.symm, rfl⟩
      case round =>
        obtain ⟨a, q, rfl, ha, rfl, rfl, hq, hst, rfl⟩ := hrel
        have ST := Lib.hid hst
        clear hst hx
        by_cases h8 : a < 8
        · have hd8 : decide ((a : Int) < 8) = true := by rw [decide_eq_true_iff]; omega
          have hsb := stepBit_lt q hq
          by_cases hodd : q % 2 = 1
          · have e1 : ((q : Int) % 2 == 1) = true := by rw [beq_iff_eq]; omega
            have hs : bits .xor .u32 ((q : Int) / 2) 3988292384 = ((stepBit q : Nat) : Int) := by
              have := u32_xor_nat (q / 2) 3988292384 (by omega) (by omega)
              rw [show (((q / 2 : Nat)) : Int) = (q : Int) / 2 by omega] at this
              unfold stepBit
              rw [hodd, Nat.mul_one]
              exact this
            clear hodd
            go_wp2
            go_roundg (8 - (a + 1))
            case measure => omega
            case rel =>
              refine ⟨a + 1, stepBit q, rfl, by omega, rfl, rfl, hsb, ?_, rfl⟩
              rw [← ST.out, show 8 - a = (8 - (a + 1)) + 1 by omega]
              rfl
          · have e1 : ((q : Int) % 2 == 1) = false := by rw [beq_eq_false_iff_ne]; omega
            have hs : (q : Int) / 2 = ((stepBit q : Nat) : Int) := by
              unfold stepBit
              rw [show q % 2 = 0 by omega, Nat.mul_zero, Nat.xor_zero]
              omega
            have HS := Lib.hid hs
            clear hodd hs
            go_wp2
            go_roundg (8 - (a + 1))
            case measure => omega
            case rel =>
              refine ⟨a + 1, stepBit q, rfl, by omega, rfl, by rw [HS.out], hsb, ?_, rfl⟩
              rw [← ST.out, show 8 - a = (8 - (a + 1)) + 1 by omega]
              rfl
        · have hd8 : decide ((a : Int) < 8) = false := by rw [decide_eq_false_iff_not]; omega
          obtain rfl : a = 8 := by omega
          go_wp2
          go_roundg (s.size - (j + 1))
          case measure => omega
          case rel => exact ⟨j + 1, rfl, by omega, rfl, by rw [HG.out, ← show q = _ from ST.out], rfl⟩
    · have hd : decide ((j : Int) < s.size) = false := by rw [decide_eq_false_iff_not]; omega
      obtain rfl : j = s.size := by omega
      have hfull : s.data.toList.take s.size = s.data.toList := List.take_of_length_le (Nat.le_refl _)
      rw [hfull] at hcr ⊢
      clear hfull
      go_wp2_with fail
      go_ret
      exact ⟨ret_u32 (by unfold sumL; omega), rfl⟩
end Go.Proofs.Ytghahdddjpofdaa
