/- The walk of the statement CrcBursts. -/
import Derived.Test.YthpjmffdilkcfaaLives2
import Derived.Test.YthpjmffdilkcfaaCrcBurst
import Derived.Test.YthpjmffdilkcfaaRow
namespace Go.Proofs.Ythpjmffdilkcfaa
open Go.RowKit

/-- What the burst has turned behind k rounds. -/
def burC (cs : List UInt8) (a m k : Nat) : Bool := m.testBit k && decide (a + k < 8 * cs.length)
def burL (cs : List UInt8) (a m : Nat) : Nat → List UInt8
  | 0 => cs
  | k + 1 => if burC cs a m k = true then flipB (burL cs a m k) (a + k) else burL cs a m k
def burD (cs : List UInt8) (a m : Nat) : Nat → Bool
  | 0 => false
  | k + 1 => if burC cs a m k = true then true else burD cs a m k
theorem burL_length (cs : List UInt8) (a m k : Nat) : (burL cs a m k).length = cs.length := by
  induction k with
  | zero => rfl
  | succ k ih =>
    rw [burL]
    split
    · rw [flipB_length, ih]
    · exact ih
theorem burL_bit (cs : List UInt8) (a m k j : Nat) : bitT (burL cs a m k) j = (bitT cs j ^^ (decide (a ≤ j ∧ j < a + k) && burC cs a m (j - a))) := by
  induction k with
  | zero =>
    rw [burL, show decide (a ≤ j ∧ j < a + 0) = false by simp <;> omega]
    simp
  | succ k ih =>
    rw [burL]
    by_cases hc : burC cs a m k = true
    · rw [if_pos hc, flipB_bit _ _ _ (by rw [burL_length]; unfold burC at hc; simp at hc; omega), ih]
      by_cases hj : j = a + k
      · subst hj
        rw [show decide (a + k = a + k) = true by simp, show decide (a ≤ a + k ∧ a + k < a + k) = false by simp, show decide (a ≤ a + k ∧ a + k < a + (k + 1)) = true by simp <;> omega, show a + k - a = k by omega, hc]
        simp
      · rw [show decide (j = a + k) = false by simp [hj], show decide (a ≤ j ∧ j < a + (k + 1)) = decide (a ≤ j ∧ j < a + k) by rw [decide_eq_decide]; omega]
        simp
    · rw [if_neg hc, ih]
      by_cases hj : j = a + k
      · subst hj
        rw [show decide (a ≤ a + k ∧ a + k < a + k) = false by simp, show a + k - a = k by omega, show burC cs a m k = false by simpa using hc]
        simp
      · rw [show decide (a ≤ j ∧ j < a + (k + 1)) = decide (a ≤ j ∧ j < a + k) by rw [decide_eq_decide]; omega]
theorem burD_iff (cs : List UInt8) (a m k : Nat) : burD cs a m k = true ↔ ∃ j, j < k ∧ burC cs a m j = true := by
  induction k with
  | zero => simp [burD]
  | succ k ih =>
    rw [burD]
    by_cases hc : burC cs a m k = true
    · rw [if_pos hc]
      simp only [true_iff]
      exact ⟨k, by omega, hc⟩
    · rw [if_neg hc, ih]
      constructor
      · rintro ⟨j, hj, h⟩; exact ⟨j, by omega, h⟩
      · rintro ⟨j, hj, h⟩
        refine ⟨j, ?_, h⟩
        by_cases e : j = k
        · subst e; exact absurd h hc
        · omega
theorem burL_no (cs : List UInt8) (a m k : Nat) (h : burD cs a m k = false) : burL cs a m k = cs := by
  induction k with
  | zero => rfl
  | succ k ih =>
    rw [burD] at h
    rw [burL]
    split at h
    · cases h
    · rename_i hc
      rw [if_neg hc]
      exact ih h
/-- The law: the sums are unlike just if something was turned. -/
theorem bur_law (cs : List UInt8) (a m : Nat) : (crcN (burL cs a m 32) ≠ crcN cs) ↔ burD cs a m 32 = true := by
  constructor
  · intro h
    cases hd : burD cs a m 32 with
    | true => rfl
    | false => rw [burL_no cs a m 32 hd] at h; exact absurd rfl h
  · intro h
    obtain ⟨j, hj, hc⟩ := (burD_iff cs a m 32).1 h
    have hlt : a + j < 8 * cs.length := by unfold burC at hc; simp at hc; exact hc.2
    refine crcN_burst _ _ (burL_length cs a m 32) a (a + j) (by rw [burL_length]; exact hlt) ?_ ?_
    · rw [burL_bit, show decide (a ≤ a + j ∧ a + j < a + 32) = true by simp <;> omega, show a + j - a = j by omega, hc]
      cases bitT cs (a + j) <;> simp
    · intro i hi
      rw [burL_bit] at hi
      by_cases hin : a ≤ i ∧ i < a + 32
      · exact hin
      · rw [show decide (a ≤ i ∧ i < a + 32) = false by simpa using hin] at hi
        simp at hi

theorem OB.drew {w : World} {base : Nat} {v : Value} {bs : List UInt8} (h : OB w base v bs) : OB w.drew base v bs := h

theorem u32_bit (m k : Nat) (hm : m < 4294967296) : bits .and .u32 ((m : Int) / 2 ^ k) 1 = ((m / 2 ^ k % 2 : Nat) : Int) := by
  have h := u32_and1 (m / 2 ^ k) (by have := Nat.div_le_self m (2 ^ k); omega)
  have e : ((m / 2 ^ k : Nat) : Int) = (m : Int) / 2 ^ k := by simp
  rw [← e]
  exact h

set_option maxHeartbeats 1600000 in
set_option maxRecDepth 100000 in
theorem bur_walk (A : Option Addr) (cs : List UInt8) (c a m q : Nat) (hl : cs.length ≤ 60) (hq : q ≤ 9223372036854775807) (ha : a ≤ 8 * cs.length) (hm : m < 4294967296) (w : World) (hr : RB w w.heap.size A cs)
    (bs : List UInt8) (n : Int) (hn : n = (q : Int) ∨ n = -(q : Int) - 1)
    (hfew : ∀ w, Calls Try.prog 7 #[.slice A bs.length c] w fun e w' => e = .returned (.slice A cs.length c) ∧ w = w')
    (hat : (q : Int) % (8 * (cs.length : Int) + 1) = (a : Int)) :
    Calls Try.prog 4 #[.slice A bs.length c, .int .i64 n, .int .u32 (m : Int)] w fun e w' => e = .returned (.bool true) ∧ Below w.heap.size w w' := by
  have HF := Lib.hid hfew
  clear hfew
  rcases hn with rfl | rfl
  all_goals
    have hneg : -(-(q : Int) - 1 + 1) = (q : Int) := by omega
    go_enter Try.func4, Try.ntmps4
    go_wp2_with fail
    refine (HF.out _).mono ?_
    rintro e w1 ⟨rfl, rfl⟩
    go_wp2_with (at_builtin; refine wpList_appB rfl (.tmp 24) (.tmp 25) rfl w.heap.size _ [] rfl (OB.nil w _) w.heap.size A c cs cs.length rfl rfl hr (by simp; omega) (Nat.le_refl _) ?_; intro v1 w1 hown hb1 hq1 hq2; clear hq1 hq2)
    clear hat hneg
    rw [List.nil_append] at hown
    go_loopw [8, 9] (fun d i wr => ∃ k : Nat, k ≤ 32 ∧ i = .int .i64 k ∧ d = .bool (burD cs a m k) ∧ OB wr w.heap.size v1 (burL cs a m k) ∧ Below w.heap.size w wr) (fun _ i _ => 32 - (intOf i).toNat)
    case atStart => exact ⟨0, by omega, rfl, rfl, hown, hb1⟩
    case round =>
      obtain ⟨k, hk, rfl, rfl, hown, hb⟩ := hrel
      by_cases h32 : k < 32
      · have hbit := u32_bit m k hm
        have hsucL : burL cs a m (k + 1) = if burC cs a m k = true then flipB (burL cs a m k) (a + k) else burL cs a m k := rfl
        have hsucD : burD cs a m (k + 1) = if burC cs a m k = true then true else burD cs a m k := rfl
        have htb : m.testBit k = decide (m / 2 ^ k % 2 = 1) := Nat.testBit_eq_decide_div_mod_eq ..
        have hlen := burL_length cs a m k
        obtain ⟨K, hK⟩ : ∃ K, K = a + k := ⟨_, rfl⟩
        have hKi : (a : Int) + (k : Int) = (K : Int) := by omega
        by_cases hc : burC cs a m k = true
        · rw [if_pos hc, ← hK] at hsucL
          rw [if_pos hc] at hsucD
          have hb1 : m / 2 ^ k % 2 = 1 := by unfold burC at hc; rw [htb] at hc; simp at hc; exact hc.1
          have hlt : K < 8 * cs.length := by unfold burC at hc; simp at hc; omega
          rw [hb1] at hbit
          obtain ⟨L, hL⟩ : ∃ L, L = burL cs a m k := ⟨_, rfl⟩
          rw [← hL] at hown hsucL hlen
          obtain ⟨g, cap, hv, hgb, hgl⟩ := World.ownsRow.form hown (by omega)
          rw [hlen] at hv
          subst hv
          obtain ⟨u, hu, hcell⟩ : ∃ u : UInt8, L[K / 8]? = some u ∧ wr.cell? ⟨g, K / 8, none⟩ = some (.int .u8 (u.toNat : Int)) := ⟨_, List.getElem?_eq_getElem (by omega), OB.cellAt hlen.symm hown (K / 8) (by omega)⟩
          have hfz := OB.frozenAt hlen.symm hown (K / 8)
          have HSL := Lib.hid hsucL
          have HSD := Lib.hid hsucD
          have HLEN := Lib.hid hlen
          have HU := Lib.hid hu
          have hK8 : K / 8 < cs.length := by omega
          obtain ⟨J, hJ⟩ : ∃ J, J = K / 8 := ⟨_, rfl⟩
          obtain ⟨R, hR⟩ : ∃ R, R = K % 8 := ⟨_, rfl⟩
          have hR8 : R < 8 := by omega
          rw [← hJ] at hcell hfz hK8 HU
          have hJ1 : (K : Int) / 8 = (J : Int) := by omega
          have hR1 : (K : Int) % 8 = (R : Int) := by omega
          have hJ2 : IntKind.i64.wrap (J : Int) = (J : Int) := IntWalk.i64_in _ (by omega)
          have hR2 : IntKind.i64.wrap (R : Int) = (R : Int) := IntWalk.i64_in _ (by omega)
          have hR3 : (R : Int) ≤ 8 := by omega
          have HJ := Lib.hid hJ
          have HRR := Lib.hid hR
          clear hsucL hsucD htb hlen hu hL hK hb1 hc hJ hR
          go_wp2
          clear hJ1 hR1
          have hJ1 : IntKind.i64.wrap ((K : Int) / 8) = (J : Int) := by rw [IntWalk.i64_in _ (by omega)]; have := HJ.out; omega
          have hR1 : IntKind.i64.wrap ((K : Int) % 8) = (R : Int) := by rw [IntWalk.i64_in _ (by omega)]; have := HRR.out; omega
          have hR4 : (K : Int).tmod 8 = (R : Int) := by rw [Int.tmod_eq_emod_of_nonneg (by omega)]; have := HRR.out; omega
          have hJ4 : (K : Int).tdiv 8 = (J : Int) := by rw [Int.tdiv_eq_ediv_of_nonneg (by omega)]; have := HJ.out; omega
          have hnew : Value.int .u8 (bits .xor .u8 (u.toNat : Int) (IntKind.u8.wrap (2 ^ R))) = bv (UInt8.ofNat (u.toNat ^^^ 2 ^ R)) := by
            have hp : (2 : Nat) ^ R < 256 := by
              have := Nat.pow_lt_pow_right (a := 2) (by omega) hR8
              simpa using this
            have hul := u.toNat_lt
            have e1 : IntKind.u8.wrap ((2 : Int) ^ R) = ((2 ^ R : Nat) : Int) := by
              rw [IntKind.wrap_u8]
              have e0 : (2 : Int) ^ R = ((2 ^ R : Nat) : Int) := by simp
              rw [e0]
              exact Int.emod_eq_of_lt (Int.natCast_nonneg _) (Int.ofNat_lt.2 hp)
            rw [e1, u8_xor_nat _ _ (by omega) hp]
            unfold bv
            rw [flip_toNat u R hR8]
          have hflip : flipB L K = L.set J (UInt8.ofNat (u.toNat ^^^ 2 ^ R)) := by
            unfold flipB
            rw [← HJ.out, ← HRR.out, List.getD_eq_getElem?_getD, HU.out]
            rfl
          have hst := OB.stored HLEN.out.symm hown J (UInt8.ofNat (u.toNat ^^^ 2 ^ R))
          rw [← hflip, ← HSL.out, ← hnew] at hst
          have HST := Lib.hid hst
          clear hnew hflip hst
          go_region
          clear hJ1 hR1 hR4 hJ4 hJ2 hR2 hR3 hcell hfz
          go_wp2
          go_roundw
          case rel => exact ⟨k + 1, by omega, by go_num, by rw [HSD.out], HST.out.1.drew, (hb.setCell hgb _).drew⟩
          case measure => simp [intOf]; omega
        · rw [if_neg hc] at hsucL hsucD
          have hcases : m / 2 ^ k % 2 = 0 ∨ (m / 2 ^ k % 2 = 1 ∧ 8 * cs.length ≤ K) := by
            by_cases h1 : m / 2 ^ k % 2 = 1
            · right
              refine ⟨h1, ?_⟩
              unfold burC at hc
              rw [htb] at hc
              simp [h1] at hc
              omega
            · left; omega
          have HSL := Lib.hid hsucL
          have HSD := Lib.hid hsucD
          clear hsucL hsucD htb hlen hK hc
          rcases hcases with h1 | ⟨h1, h2⟩
          all_goals
            rw [h1] at hbit
            clear h1
            go_wp2
            go_roundw
            case rel => exact ⟨k + 1, by omega, by go_num, by rw [HSD.out], by rw [HSL.out]; exact hown, hb⟩
            case measure => simp [intOf]; omega
      · obtain rfl : k = 32 := by omega
        obtain ⟨A1, c1, rfl, -, -, hrd, -⟩ := hown.form
        have hlaw := bur_law cs a m
        have hlen := burL_length cs a m 32
        have hra : RB wr w.heap.size A cs := hr.below hb
        obtain ⟨L, hL⟩ : ∃ L, L = burL cs a m 32 := ⟨_, rfl⟩
        rw [← hL] at hrd hlaw hlen ⊢
        have HLEN := Lib.hid hlen
        have hll : L.length ≤ 60 := by omega
        have HL := Lib.hid hlaw
        clear hlaw hlen hL hown hb1
        go_wp2_with fail
        refine (crc_sum A1 L L.length c1 rfl _ hrd (by omega)).mono ?_
        rintro e w2 ⟨rfl, hb2⟩
        go_wp2_with fail
        refine (crc_sum A cs cs.length c rfl _ ((hra.below (hb2.mono hb.size)).more (Nat.le_trans hb.size hb2.size)) (by omega)).mono ?_
        rintro e w3 ⟨rfl, hb3⟩
        have hz := hb.size
        have hz2 := hb2.size
        have hz3 := hb3.size
        have hbw : Below w.heap.size w w3 := (hb.trans (hb2.mono hz)).trans (hb3.mono (by omega))
        clear hb hb2 hb3 hra hrd
        cases hd : burD cs a m 32 with
        | true =>
          have hne := HL.out.2 hd
          have e1 : (((crcN L : Nat) : Int) != ((crcN cs : Nat) : Int)) = true := by simp; omega
          clear hd hne HL
          go_wp2_with fail
          refine (lives2_any _).mono ?_
          rintro e w5 ⟨rfl, hb5⟩
          go_wp2_with fail
          go_ret
          exact ⟨rfl, hbw.trans (hb5.mono hbw.size)⟩
        | false =>
          have hne : crcN L = crcN cs := by
            by_cases h : crcN L = crcN cs
            · exact h
            · exact absurd (HL.out.1 h) (by simp [hd])
          have e1 : (((crcN L : Nat) : Int) != ((crcN cs : Nat) : Int)) = false := by simp [hne]
          clear hd hne HL
          go_wp2_with fail
          refine (lives2_any _).mono ?_
          rintro e w5 ⟨rfl, hb5⟩
          go_wp2_with fail
          go_ret
          exact ⟨rfl, hbw.trans (hb5.mono hbw.size)⟩

theorem law_CrcBursts (A : Option Addr) (bs : List UInt8) (c : Nat) (hc : bs.length ≤ c) (hm : c ≤ maxLen) (n : Int) (hn0 : -9223372036854775808 ≤ n) (hn1 : n ≤ 9223372036854775807) (m : Nat) (hmm : m < 4294967296) (w : World) (hr : RB w w.heap.size A bs) :
    Calls Try.prog 4 #[.slice A bs.length c, .int .i64 n, .int .u32 (m : Int)] w fun e w' => e = .returned (.bool true) ∧ Below w.heap.size w w' := by
  have hl : (bs.take 60).length ≤ 60 := by rw [List.length_take]; omega
  obtain ⟨q, hq, hn⟩ : ∃ q : Nat, q ≤ 9223372036854775807 ∧ (n = (q : Int) ∨ n = -(q : Int) - 1) := by
    by_cases h : n < 0
    · exact ⟨(-(n + 1)).toNat, by omega, .inr (by omega)⟩
    · exact ⟨n.toNat, by omega, .inl (by omega)⟩
  refine bur_walk A (bs.take 60) c (q % (8 * (bs.take 60).length + 1)) m q hl hq ?_ hmm w (hr.first 60) bs n hn (fun w => few2_any A bs c hc hm w) ?_
  · have := Nat.mod_lt q (show 0 < 8 * (bs.take 60).length + 1 by omega)
    omega
  · simp
end Go.Proofs.Ythpjmffdilkcfaa
