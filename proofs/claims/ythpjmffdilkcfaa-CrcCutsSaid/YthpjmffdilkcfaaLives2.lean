/- commonsref02.Sum; the document's examples of layer 2 are met. -/
import Derived.Test.YthpjmffdilkcfaaRef2
import Derived.Test.YthpjmffdilkcfaaCrcSum
import Derived.KernelRfl
import Derived.Lib.SlBytesConst
namespace Go.Proofs.Ythpjmffdilkcfaa
open Go.RowKit

theorem ref2_sum (A : Option Addr) (bs : List UInt8) (n c : Nat) (hn : n = bs.length) (B : Nat) (w : World) (hb : RB w B A bs) (hl : bs.length ≤ 1073741824) :
    Calls Try.prog 9 #[.slice A n c] w fun e w' => e = .returned (.int .i64 (crcN bs : Nat)) ∧ w = w' := by
  subst hn
  obtain ⟨r0, hr0⟩ : ∃ r0 : Nat, r0 = 4294967295 := ⟨_, rfl⟩
  have hr0l : r0 < 2 ^ 32 := by omega
  have hr0i : (4294967295 : Int) = (r0 : Int) := by omega
  have hfin : (r0 : Int) - ((crcMore r0 bs : Nat) : Int) = ((crcN bs : Nat) : Int) := by
    have := crcMore_lt hr0l bs
    unfold crcN
    rw [← hr0]
    omega
  have hmr := crcMore_lt hr0l bs
  have HF := Lib.hid hfin
  have HR := Lib.hid hr0i
  clear hfin hr0 hr0i
  go_enter Try.func9, Try.ntmps9
  go_wp2_with fail
  rw [HR.out]
  refine (ref2_more r0 hr0l A bs bs.length c rfl B w hb hl).mono ?_
  rintro e w1 ⟨rfl, rfl⟩
  obtain ⟨q, hq⟩ : ∃ q, q = crcMore r0 bs := ⟨_, rfl⟩
  rw [← hq] at hmr HF ⊢
  clear hq
  go_wp2_with fail
  go_ret
  refine ⟨ret_int ?_, rfl⟩
  rw [← HF.out, ← HR.out]

theorem few2_any (A : Option Addr) (bs : List UInt8) (c : Nat) (hc : bs.length ≤ c) (hm : c ≤ maxLen) (w : World) :
    Calls Try.prog 7 #[.slice A bs.length c] w fun e w' => e = .returned (.slice A (bs.take 60).length c) ∧ w = w' := by
  unfold maxLen at hm
  by_cases h : 60 < bs.length
  · have e : (bs.take 60).length = 60 := by rw [List.length_take]; omega
    rw [e]
    have hc' : 60 ≤ c := by omega
    go_enter Try.func7, Try.ntmps7
    go_wp2
    go_ret
    exact ⟨rfl, rfl⟩
  · have e : bs.take 60 = bs := List.take_of_length_le (by omega)
    rw [e]
    go_enter Try.func7, Try.ntmps7
    go_wp2
    go_ret
    exact ⟨rfl, rfl⟩

theorem RB.lit' (w : World) (t : TypeId) (cs : Array Value) (fz : Nat × Nat) (bs : List UInt8) (h : cs = (bvs bs).toArray) : RB (w.alloc (.cells cs t fz)) (w.alloc (.cells cs t fz)).heap.size (some ⟨w.heap.size, 0, none⟩) bs := by
  subst h
  refine ⟨by simp [bvs], fun _ => ⟨_, _, rfl, by simp, fun j u hu => ?_⟩⟩
  rw [cell_of_row _ _ (0 + j) (bvs bs).toArray t fz (heap_alloc_new w _)]
  simpa using hu

theorem crcN_nil : crcN [] = 0 := by kernel_rfl
theorem crcN_nine : crcN [49, 50, 51, 52, 53, 54, 55, 56, 57] = 3421780262 := by kernel_rfl

theorem lives2_any (w : World) : Calls Try.prog 10 #[] w fun e w' => e = .returned (.bool true) ∧ Below w.heap.size w w' := by
  have kc := fun (w : World) (C : Array Value) (n c : Nat) => Lib.run_convert_bytes_const (P := Try.prog) w 22 5 C n c Try.underlying22 Try.underlying5
  go_enter Try.func10, Try.ntmps10
  go_wp2_with fail
  refine (crc_sum (some ⟨w.heap.size, 0, none⟩) [49, 50, 51, 52, 53, 54, 55, 56, 57] 9 9 rfl _ (RB.lit' w _ _ _ [49, 50, 51, 52, 53, 54, 55, 56, 57] rfl) (by simp)).mono ?_
  rintro e w1 ⟨rfl, hb⟩
  rw [crcN_nine]
  have hz := hb.size
  have hs : w.heap.size ≤ w1.heap.size := by simp at hz; omega
  have hbw : Below w.heap.size w w1 := ((Below.refl w.heap.size w).alloc (Nat.le_refl _) _).trans (hb.mono (by simp))
  clear hb hz
  go_wp2_with fail
  refine (crc_sum none [] 0 0 rfl _ RB.nil_ (by simp)).mono ?_
  rintro e w2 ⟨rfl, hb2⟩
  rw [crcN_nil]
  go_wp2_with fail
  go_ret
  exact ⟨rfl, hbw.trans (hb2.mono hs)⟩

theorem law_CrcSums (A : Option Addr) (bs : List UInt8) (c : Nat) (hc : bs.length ≤ c) (hm : c ≤ maxLen) (w : World) (hr : RB w w.heap.size A bs) :
    Calls Try.prog 3 #[.slice A bs.length c] w fun e w' => e = .returned (.bool true) ∧ Below w.heap.size w w' := by
  have hl : (bs.take 60).length ≤ 60 := by rw [List.length_take]; omega
  have hr' : RB w w.heap.size A (bs.take 60) := hr.first 60
  go_enter Try.func3, Try.ntmps3
  go_wp2_with fail
  refine (few2_any A bs c hc hm w).mono ?_
  rintro e w1 ⟨rfl, rfl⟩
  obtain ⟨cs, hcs⟩ : ∃ cs, cs = bs.take 60 := ⟨_, rfl⟩
  rw [← hcs] at hl hr' ⊢
  clear hcs hr hc hm
  have hcl := crcN_lt cs
  go_wp2_with fail
  refine (crc_sum A cs cs.length c rfl _ hr' (by omega)).mono ?_
  rintro e w1 ⟨rfl, hb1⟩
  go_wp2_with fail
  refine (ref2_sum A cs cs.length c rfl _ _ (hr'.below hb1) (by omega)).mono ?_
  rintro e w2 ⟨rfl, rfl⟩
  go_wp2_with fail
  refine (lives2_any _).mono ?_
  rintro e w5 ⟨rfl, hb5⟩
  go_wp2_with fail
  go_ret
  exact ⟨rfl, hb1.trans (hb5.mono hb1.size)⟩
end Go.Proofs.Ythpjmffdilkcfaa
