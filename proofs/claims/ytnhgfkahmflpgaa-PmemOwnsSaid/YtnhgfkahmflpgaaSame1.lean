/- commonsref01.Same, where the seat has no other function of that package. No statement of the seat is proved here. -/
import Derived.Test.YtnhgfkahmflpgaaStd0
namespace Go.Proofs.Ytnhgfkahmflpgaa
open Go.RowKit

set_option maxHeartbeats 1000000 in
theorem ref1_same (A A' : Option Addr) (xs ys : List UInt8) (c c' B B' : Nat) (w : World) (hx : RB w B A xs) (hy : RB w B' A' ys) (hl : xs.length ≤ 1073741824) (hl' : ys.length ≤ 1073741824) :
    Calls Try.prog 18 #[.slice A xs.length c, .slice A' ys.length c'] w fun e w' => e = .returned (.bool (decide (xs = ys))) ∧ ∃ n, w' = w.drewN n := by
  by_cases hlen : xs.length = ys.length
  · have hle1 : xs.length ≤ ys.length := Nat.le_of_eq hlen
    have hle2 : ys.length ≤ xs.length := Nat.le_of_eq hlen.symm
    clear hlen
    go_enter Try.func18, Try.ntmps18
    go_wp2
    go_loopw [5] (fun i wr => ∃ k n : Nat, k ≤ xs.length ∧ i = .int .i64 k ∧ xs.take k = ys.take k ∧ wr = w.drewN n) (fun i _ => xs.length - (intOf i).toNat)
    case atStart => exact ⟨0, 0, Nat.zero_le _, rfl, rfl, rfl⟩
    case round =>
      obtain ⟨k, n, hk, rfl, ht, rfl⟩ := hrel
      have HT := Lib.hid ht
      clear ht
      by_cases hlt : k < xs.length
      · obtain ⟨b, o, rfl, _, hc⟩ := hx.at_ hlt
        obtain ⟨b', o', rfl, _, hc'⟩ := hy.at_ (k := k) (by omega)
        obtain ⟨u, hu⟩ : ∃ u, u = xs[k]'hlt := ⟨_, rfl⟩
        obtain ⟨u', hu'⟩ : ∃ u, u = ys[k]'(by omega) := ⟨_, rfl⟩
        rw [← hu] at hc
        rw [← hu'] at hc'
        have HU := Lib.hid hu
        have HU' := Lib.hid hu'
        clear hu hu'
        have hky : k < ys.length := by omega
        by_cases he : u = u'
        · have heq : ((u.toNat : Int) != (u'.toNat : Int)) = false := by simp [he]
          have HE := Lib.hid he
          clear he
          go_wp2
          go_quiet (fail)
          go_wp2
          go_roundw
          case rel =>
            refine ⟨k + 1, _, by omega, by go_num, ?_, rfl⟩
            rw [List.take_succ_eq_append_getElem hlt, List.take_succ_eq_append_getElem hky, HT.out, ← HU.out, ← HU'.out, HE.out]
          case measure => simp [intOf]; omega
        · have heq : ((u.toNat : Int) != (u'.toNat : Int)) = true := by
            simp only [bne_iff_ne, ne_eq, Int.ofNat_inj]
            exact fun h => he (UInt8.toNat_inj.1 h)
          have HE := Lib.hid he
          clear he
          go_wp2
          go_quiet (fail)
          go_wp2
          go_ret
          refine ⟨ret_bool ?_, _, World.drewN_drewN ..⟩
          symm
          simp only [decide_eq_false_iff_not]
          rintro rfl
          exact HE.out (HU.out.trans HU'.out.symm)
      · obtain rfl : k = xs.length := by omega
        go_wp2
        go_ret
        refine ⟨ret_bool ?_, _, rfl⟩
        symm
        simp only [decide_eq_true_eq]
        have h := HT.out
        rw [List.take_of_length_le (Nat.le_refl _), List.take_of_length_le hle2] at h
        exact h
  · go_enter Try.func18, Try.ntmps18
    go_wp2
    go_ret
    refine ⟨ret_bool ?_, 0, rfl⟩
    simp
    rintro rfl
    exact hlen rfl
theorem same_s {A A' : Option Addr} {n n' c c' : Nat} {xs ys : List UInt8} {w : World} (hx : Sl w A n xs) (hy : Sl w A' n' ys) :
    Calls Try.prog 18 #[.slice A n c, .slice A' n' c'] w fun e w' => ∃ s, e = .returned (.bool s) ∧ Hid (s = decide (xs = ys)) ∧ ∃ k, w' = w.drewN k := by
  obtain ⟨rfl, hn, hr⟩ := hx
  obtain ⟨rfl, hn', hr'⟩ := hy
  refine (ref1_same A A' xs ys c c' _ _ w hr hr' (by omega) (by omega)).mono ?_
  rintro e w' ⟨rfl, k, rfl⟩
  exact ⟨_, rfl, Lib.hid rfl, k, rfl⟩
/-- Two slices of the same bytes are the same. -/
theorem same_yes {A A' : Option Addr} {n n' c c' : Nat} {xs ys : List UInt8} {w : World} (hx : Sl w A n xs) (hy : Sl w A' n' ys) (he : xs = ys) :
    Calls Try.prog 18 #[.slice A n c, .slice A' n' c'] w fun e w' => e = .returned (.bool true) ∧ ∃ k, w' = w.drewN k := by
  refine (same_s hx hy).mono ?_
  rintro e w' ⟨s, rfl, hs, k, rfl⟩
  rw [hs.out, decide_eq_true he]
  exact ⟨rfl, k, rfl⟩
end Go.Proofs.Ytnhgfkahmflpgaa
