/- commonslaw16.log. -/
import Derived.Test.YtnbgkkjhmdfmiaaRScan
import Derived.Test.YtnbgkkjhmdfmiaaMake
namespace Go.Proofs.Ytnbgkkjhmdfmiaa
open Go.RowKit

def hd8 (x : Int) : List UInt8 := if fitsB x 8 then leB x.toNat 8 else List.replicate 8 0
def logB (x : Int) (bs : List UInt8) : List UInt8 := (hd8 x ++ bs.take 1016) ++ List.replicate (1016 - (bs.take 1016).length) 0
theorem hd8_length (x : Int) : (hd8 x).length = 8 := by unfold hd8; split <;> simp [leB_length]
theorem logB_length (x : Int) (bs : List UInt8) : (logB x bs).length = 1024 := by simp [logB, hd8_length]; omega

theorem log_w {A : Option Addr} {n c : Nat} {bs : List UInt8} {w : World} (hs : Sl w A n bs) (hc : n ≤ c) (x : Int) (hx : x ≤ 9223372036854775807) :
    Calls Try.prog 20 #[.int .i64 x, .slice A n c] w fun e w' => ∃ A' c', e = .returned (.slice A' 1024 c') ∧ Own w' w.heap.size A' 1024 c' (logB x bs) ∧ Grow w w' := by
  have hr := ref1_put none [] 0 x 8 w RB.nil_ (by simp) hx
  by_cases hf : fitsB x 8 = true
  · have hfin : putB [] x 8 = hd8 x := by rw [putB, if_pos hf, hd8, if_pos hf]; rfl
    rw [hfin] at hr
    clear hfin hf
    by_cases hbig : 1016 < n
    · have hbig' : decide (1016 < (n : Int)) = true := decide_eq_true (by omega)
      have hS : Sl w A 1016 (bs.take 1016) := hs.take (by omega)
      go_enter Try.func20, Try.ntmps20
      go_wp2_with fail
      refine hr.mono ?_
      rintro e w1 ⟨v, rfl, ho, g1⟩
      obtain ⟨A1, c1, rfl, O1⟩ := Own.ofOB ho 8 (hd8_length x) (by omega)
      clear hr ho
      replace hS := hS.keep g1
      have hsz := Below.size g1
      go_wp2_with (first | (at_builtin; refine wpList_appB rfl (.tmp 17) (.tmp 18) rfl w.heap.size _ (hd8 x) rfl O1.2.2 _ A _ (bs.take 1016) 1016 hS.1.symm rfl hS.2.2 (by have := hd8_length x; have := hS.1; omega) hsz ?_; intro v2 w2 q1 q2 q3 q4; clear q3 q4; obtain ⟨A2, c2, rfl, O2⟩ := Own.ofOB q1 (8 + 1016) (by have := hd8_length x; have := hS.1; rw [List.length_append]; omega) (by omega); clear q1) | (at_builtin; refine wpList_appZ rfl (.tmp 20) (.tmp 23) rfl w.heap.size _ (hd8 x ++ bs.take 1016) rfl O2.2.2 (1016 - 1016) _ (by omega) rfl (by have := O2.1; omega) (by have := Below.size q2; omega) ?_; intro v3 w3 q5 q6; obtain ⟨A3, c3, rfl, O3⟩ := Own.ofOB q5 1024 (by have := O2.1; rw [List.length_append, List.length_replicate]; omega) (by omega); clear q5))
      go_ret
      exact ⟨_, _, rfl, by rw [logB, hS.1]; exact O3, (g1.trans q2).trans q6⟩
    · have hbig' : decide (1016 < (n : Int)) = false := decide_eq_false (by omega)
      have hS : Sl w A n (bs.take 1016) := by rw [List.take_of_length_le (by have := hs.1; omega)]; exact hs
      go_enter Try.func20, Try.ntmps20
      go_wp2_with fail
      refine hr.mono ?_
      rintro e w1 ⟨v, rfl, ho, g1⟩
      obtain ⟨A1, c1, rfl, O1⟩ := Own.ofOB ho 8 (hd8_length x) (by omega)
      clear hr ho
      replace hS := hS.keep g1
      have hsz := Below.size g1
      go_wp2_with (first | (at_builtin; refine wpList_appB rfl (.tmp 17) (.tmp 18) rfl w.heap.size _ (hd8 x) rfl O1.2.2 _ A _ (bs.take 1016) n hS.1.symm rfl hS.2.2 (by have := hd8_length x; have := hS.1; omega) hsz ?_; intro v2 w2 q1 q2 q3 q4; clear q3 q4; obtain ⟨A2, c2, rfl, O2⟩ := Own.ofOB q1 (8 + n) (by have := hd8_length x; have := hS.1; rw [List.length_append]; omega) (by omega); clear q1) | (at_builtin; refine wpList_appZ rfl (.tmp 20) (.tmp 23) rfl w.heap.size _ (hd8 x ++ bs.take 1016) rfl O2.2.2 (1016 - n) _ (by omega) rfl (by have := O2.1; omega) (by have := Below.size q2; omega) ?_; intro v3 w3 q5 q6; obtain ⟨A3, c3, rfl, O3⟩ := Own.ofOB q5 1024 (by have := O2.1; rw [List.length_append, List.length_replicate]; omega) (by omega); clear q5))
      go_ret
      exact ⟨_, _, rfl, by rw [logB, hS.1]; exact O3, (g1.trans q2).trans q6⟩
  · have hf' : fitsB x 8 = false := by simpa using hf
    have hp : putB [] x 8 = [] := by rw [putB, if_neg hf]; rfl
    have hfin : hd8 x = List.replicate 8 0 := by rw [hd8, if_neg hf]
    rw [hp] at hr
    replace hfin := Lib.hid hfin
    clear hf hf' hp
    by_cases hbig : 1016 < n
    · have hbig' : decide (1016 < (n : Int)) = true := decide_eq_true (by omega)
      have hS : Sl w A 1016 (bs.take 1016) := hs.take (by omega)
      go_enter Try.func20, Try.ntmps20
      go_wp2_with fail
      refine hr.mono ?_
      rintro e w1 ⟨v, rfl, ho, g1⟩
      obtain ⟨A0, c0, rfl, O0⟩ := Own.ofOB ho 0 rfl (by omega)
      clear hr ho O0
      have hsz0 := Below.size g1
      go_wp2_with (first | (refine wpList_makeB rfl _ _ rfl w.heap.size 8 8 8 rfl rfl rfl rfl (by omega) hsz0 ?_; intro w1b ho2 hb2 _; have O1 : Own w1b w.heap.size _ 8 8 (hd8 x) := ⟨hd8_length x, by omega, by rw [hfin.out]; exact ho2⟩; replace g1 := g1.trans hb2; replace hS := hS.keep g1; have hsz := Below.size g1; clear ho2 hb2) | (at_builtin; refine wpList_appB rfl (.tmp 17) (.tmp 18) rfl w.heap.size _ (hd8 x) rfl O1.2.2 _ A _ (bs.take 1016) 1016 hS.1.symm rfl hS.2.2 (by have := hd8_length x; have := hS.1; omega) hsz ?_; intro v2 w2 q1 q2 q3 q4; clear q3 q4; obtain ⟨A2, c2, rfl, O2⟩ := Own.ofOB q1 (8 + 1016) (by have := hd8_length x; have := hS.1; rw [List.length_append]; omega) (by omega); clear q1) | (at_builtin; refine wpList_appZ rfl (.tmp 20) (.tmp 23) rfl w.heap.size _ (hd8 x ++ bs.take 1016) rfl O2.2.2 (1016 - 1016) _ (by omega) rfl (by have := O2.1; omega) (by have := Below.size q2; omega) ?_; intro v3 w3 q5 q6; obtain ⟨A3, c3, rfl, O3⟩ := Own.ofOB q5 1024 (by have := O2.1; rw [List.length_append, List.length_replicate]; omega) (by omega); clear q5))
      go_ret
      exact ⟨_, _, rfl, by rw [logB, hS.1]; exact O3, (g1.trans q2).trans q6⟩
    · have hbig' : decide (1016 < (n : Int)) = false := decide_eq_false (by omega)
      have hS : Sl w A n (bs.take 1016) := by rw [List.take_of_length_le (by have := hs.1; omega)]; exact hs
      go_enter Try.func20, Try.ntmps20
      go_wp2_with fail
      refine hr.mono ?_
      rintro e w1 ⟨v, rfl, ho, g1⟩
      obtain ⟨A0, c0, rfl, O0⟩ := Own.ofOB ho 0 rfl (by omega)
      clear hr ho O0
      have hsz0 := Below.size g1
      go_wp2_with (first | (refine wpList_makeB rfl _ _ rfl w.heap.size 8 8 8 rfl rfl rfl rfl (by omega) hsz0 ?_; intro w1b ho2 hb2 _; have O1 : Own w1b w.heap.size _ 8 8 (hd8 x) := ⟨hd8_length x, by omega, by rw [hfin.out]; exact ho2⟩; replace g1 := g1.trans hb2; replace hS := hS.keep g1; have hsz := Below.size g1; clear ho2 hb2) | (at_builtin; refine wpList_appB rfl (.tmp 17) (.tmp 18) rfl w.heap.size _ (hd8 x) rfl O1.2.2 _ A _ (bs.take 1016) n hS.1.symm rfl hS.2.2 (by have := hd8_length x; have := hS.1; omega) hsz ?_; intro v2 w2 q1 q2 q3 q4; clear q3 q4; obtain ⟨A2, c2, rfl, O2⟩ := Own.ofOB q1 (8 + n) (by have := hd8_length x; have := hS.1; rw [List.length_append]; omega) (by omega); clear q1) | (at_builtin; refine wpList_appZ rfl (.tmp 20) (.tmp 23) rfl w.heap.size _ (hd8 x ++ bs.take 1016) rfl O2.2.2 (1016 - n) _ (by omega) rfl (by have := O2.1; omega) (by have := Below.size q2; omega) ?_; intro v3 w3 q5 q6; obtain ⟨A3, c3, rfl, O3⟩ := Own.ofOB q5 1024 (by have := O2.1; rw [List.length_append, List.length_replicate]; omega) (by omega); clear q5))
      go_ret
      exact ⟨_, _, rfl, by rw [logB, hS.1]; exact O3, (g1.trans q2).trans q6⟩
end Go.Proofs.Ytnbgkkjhmdfmiaa
