/- The walks of the statements of layer 1. -/
import Derived.Test.YtjbdabjkgpamnaaLives1
namespace Go.Proofs.Ytjbdabjkgpamnaa
open Go.RowKit

theorem few1_any (A : Option Addr) (bs : List UInt8) (c : Nat) (hc : bs.length ≤ c) (hm : c ≤ maxLen) (w : World) :
    Calls Try.prog 12 #[.slice A bs.length c] w fun e w' => e = .returned (.slice A (bs.take 100).length c) ∧ w = w' := by
  unfold maxLen at hm
  by_cases h : 100 < bs.length
  · have e : (bs.take 100).length = 100 := by rw [List.length_take]; omega
    rw [e]
    have hc' : 100 ≤ c := by omega
    go_enter Try.func12, Try.ntmps12
    go_wp2
    go_ret
    exact ⟨rfl, rfl⟩
  · have e : bs.take 100 = bs := List.take_of_length_le (by omega)
    rw [e]
    go_enter Try.func12, Try.ntmps12
    go_wp2
    go_ret
    exact ⟨rfl, rfl⟩

theorem ref1_same' (A A' : Option Addr) (xs ys : List UInt8) (n n' c c' B B' : Nat) (w : World) (hn : n = xs.length) (hn' : n' = ys.length) (hx : RB w B A xs) (hy : RB w B' A' ys) (hl : xs.length ≤ 1073741824) (hl' : ys.length ≤ 1073741824) :
    Calls Try.prog 13 #[.slice A n c, .slice A' n' c'] w fun e w' => e = .returned (.bool (decide (xs = ys))) ∧ ∃ n, w' = w.drewN n := by
  subst hn hn'
  exact ref1_same A A' xs ys c c' B B' w hx hy hl hl'

theorem law_NumRounds (n to : Int) (w : World) :
    Calls Try.prog 7 #[.int .i64 n, .int .i64 to] w fun e w' => e = .returned (.bool true) ∧ Below w.heap.size w w' := by
  go_enter Try.func7, Try.ntmps7
  go_wp2_with (first
    | (go_at_call 21; refine (num_up _ _ _).mono ?_; rintro e w' ⟨rfl, rfl⟩)
    | (go_at_call 22; refine (ref1_up _ _ _).mono ?_; rintro e w' ⟨rfl, rfl⟩)
    | (go_at_call 23; refine (num_down _ _ _).mono ?_; rintro e w' ⟨rfl, rfl⟩)
    | (go_at_call 24; refine (ref1_down _ _ _).mono ?_; rintro e w' ⟨rfl, rfl⟩)
    | (go_at_call 18; refine (lives1_any _).mono ?_; rintro e w' ⟨rfl, hb⟩))
  go_ret
  exact ⟨rfl, hb⟩

theorem law_NumPuts (A : Option Addr) (bs : List UInt8) (c : Nat) (n x : Int) (hc : bs.length ≤ c) (hm : c ≤ maxLen) (h0 : -9223372036854775808 ≤ n) (h1 : n ≤ 9223372036854775807) (w : World) (hr : RB w w.heap.size A bs) :
    Calls Try.prog 3 #[.slice A bs.length c, .int .i64 n, .int .i64 x] w fun e w' => e = .returned (.bool true) ∧ Below w.heap.size w w' := by
  have hl : (bs.take 100).length ≤ 100 := by rw [List.length_take]; omega
  have hr' : RB w w.heap.size A (bs.take 100) := hr.first 100
  go_enter Try.func3, Try.ntmps3
  go_wp2_with fail
  refine (few1_any A bs c hc hm w).mono ?_
  rintro e w1 ⟨rfl, rfl⟩
  obtain ⟨cs, hcs⟩ : ∃ cs, cs = bs.take 100 := ⟨_, rfl⟩
  rw [← hcs] at hl hr' ⊢
  clear hcs hr hc hm
  go_wp2_with fail
  refine (num_put A cs c n x h0 h1 _ hr' (by omega)).mono ?_
  rintro e w1 ⟨v, rfl, hown, hb⟩
  obtain ⟨A1, c1, rfl, _, _, hrd1, _⟩ := hown.form
  go_wp2_with fail
  refine (ref1_put A cs c n x _ ((hr'.below hb).more hb.size) (by omega) h1).mono ?_
  rintro e w2 ⟨v2, rfl, hown2, hb2⟩
  obtain ⟨A2, c2, rfl, _, _, hrd2, _⟩ := hown2.form
  have hpl := putB_length cs n x
  go_wp2_with fail
  refine (ref1_same A1 A2 (putB cs n x) (putB cs n x) c1 c2 _ _ _ (hrd1.below hb2) hrd2 (by omega) (by omega)).mono ?_
  rintro e w3 ⟨rfl, k, rfl⟩
  go_wp2_with (first
    | (go_at_call 16; refine (num_fits n x h0 h1 _).mono ?_; rintro e w' ⟨rfl, rfl⟩)
    | (go_at_call 17; refine (ref1_fits n x _).mono ?_; rintro e w' ⟨rfl, rfl⟩)
    | (go_at_call 18; refine (lives1_any _).mono ?_; rintro e w5 ⟨rfl, hb5⟩))
  go_ret
  refine ⟨rfl, (hb.trans (hb2.mono hb.size)).trans ?_⟩
  exact (below_drewN (Below.refl _ _) k).trans (hb5.mono (by have := hb.size; have := hb2.size; simp; omega))

theorem law_NumGets (A : Option Addr) (bs : List UInt8) (c : Nat) (at_ x : Int) (hc : bs.length ≤ c) (hm : c ≤ maxLen) (h0 : -9223372036854775808 ≤ at_) (h1 : at_ ≤ 9223372036854775807) (w : World) (hr : RB w w.heap.size A bs) :
    Calls Try.prog 4 #[.slice A bs.length c, .int .i64 at_, .int .i64 x] w fun e w' => e = .returned (.bool true) ∧ Below w.heap.size w w' := by
  have hl : (bs.take 100).length ≤ 100 := by rw [List.length_take]; omega
  have hr' : RB w w.heap.size A (bs.take 100) := hr.first 100
  go_enter Try.func4, Try.ntmps4
  go_wp2_with fail
  refine (few1_any A bs c hc hm w).mono ?_
  rintro e w1 ⟨rfl, rfl⟩
  obtain ⟨cs, hcs⟩ : ∃ cs, cs = bs.take 100 := ⟨_, rfl⟩
  rw [← hcs] at hl hr' ⊢
  clear hcs hr hc hm
  go_wp2_with fail
  refine (num_get A cs c at_ x h0 h1 _ _ hr' (by omega)).mono ?_
  rintro e w1 ⟨rfl, rfl⟩
  go_wp2_with fail
  refine (ref1_get A cs c at_ x h0 h1 _ _ hr' (by omega)).mono ?_
  rintro e w1 ⟨rfl, rfl⟩
  go_wp2_with fail
  refine (lives1_any _).mono ?_
  rintro e w5 ⟨rfl, hb5⟩
  go_wp2_with fail
  go_ret
  exact ⟨rfl, hb5⟩

theorem law_NumNear (n to : Int) (hn0 : -9223372036854775808 ≤ n) (hn1 : n ≤ 9223372036854775807) (ht0 : -9223372036854775808 ≤ to) (ht1 : to ≤ 9223372036854775807) (w : World) :
    Calls Try.prog 8 #[.int .i64 n, .int .i64 to] w fun e w' => e = .returned (.bool true) ∧ Below w.heap.size w w' := by
  by_cases hm : mayB n to = true
  · obtain ⟨h1, h2, h3, h4⟩ := may_iff.1 hm
    have hu := up_bounds (n := n) h1
    have hd := down_bounds (n := n) h1
    have hum : upN n to % to = 0 := by unfold upN; rw [if_pos hm]; simp
    have hdm : downN n to % to = 0 := by unfold downN; rw [if_pos hm]; simp
    have hue : upN n to = (n + to - 1) / to * to := by unfold upN; rw [if_pos hm]
    have hde : downN n to = n / to * to := by unfold downN; rw [if_pos hm]
    rw [← hue] at hu
    rw [← hde] at hd
    obtain ⟨u, hu'⟩ : ∃ u, u = upN n to := ⟨_, rfl⟩
    obtain ⟨d, hd'⟩ : ∃ d, d = downN n to := ⟨_, rfl⟩
    rw [← hu'] at hu hum
    rw [← hd'] at hd hdm
    have q1 : (u % to == 0) = true := by simp [hum]
    have q2 : (d % to == 0) = true := by simp [hdm]
    have HU := Lib.hid hu'
    have HD := Lib.hid hd'
    have d0 : 0 ≤ d := by rw [hd', hde]; exact Int.mul_nonneg (Int.ediv_nonneg h3 (by omega)) (by omega)
    obtain ⟨b1, b2⟩ := hu
    obtain ⟨b3, b4⟩ := hd
    clear hu' hd' hum hdm hue hde hm
    go_enter Try.func8, Try.ntmps8
    go_wp2_with fail
    refine (num_up _ _ _).mono ?_
    rintro e w' ⟨rfl, rfl⟩
    rw [← HU.out]
    go_wp2_with fail
    refine (num_down _ _ _).mono ?_
    rintro e w' ⟨rfl, rfl⟩
    rw [← HD.out]
    go_wp2_with fail
    refine (lives1_any _).mono ?_
    rintro e w5 ⟨rfl, hb5⟩
    go_wp2_with fail
    go_ret
    exact ⟨rfl, hb5⟩
  · have hm : mayB n to = false := by simpa using hm
    have eu : upN n to = n := by simp [upN, hm]
    have ed : downN n to = n := by simp [downN, hm]
    simp only [mayB, decide_eq_false_iff_not] at hm
    have HM := Lib.hid hm
    have EU := Lib.hid eu
    have ED := Lib.hid ed
    clear hm eu ed
    by_cases g1 : n < 0
    · go_enter Try.func8, Try.ntmps8
      go_wp2_with fail
      refine (num_up _ _ _).mono ?_; rintro e w' ⟨rfl, rfl⟩; rw [EU.out]; go_wp2_with fail
      refine (num_down _ _ _).mono ?_; rintro e w' ⟨rfl, rfl⟩; rw [ED.out]; go_wp2_with fail
      refine (lives1_any _).mono ?_; rintro e w5 ⟨rfl, hb5⟩; go_wp2_with fail
      go_ret
      exact ⟨rfl, hb5⟩
    by_cases g2 : 1152921504606846976 < n
    · go_enter Try.func8, Try.ntmps8
      go_wp2_with fail
      refine (num_up _ _ _).mono ?_; rintro e w' ⟨rfl, rfl⟩; rw [EU.out]; go_wp2_with fail
      refine (num_down _ _ _).mono ?_; rintro e w' ⟨rfl, rfl⟩; rw [ED.out]; go_wp2_with fail
      refine (lives1_any _).mono ?_; rintro e w5 ⟨rfl, hb5⟩; go_wp2_with fail
      go_ret
      exact ⟨rfl, hb5⟩
    by_cases g3 : to < 1
    · go_enter Try.func8, Try.ntmps8
      go_wp2_with fail
      refine (num_up _ _ _).mono ?_; rintro e w' ⟨rfl, rfl⟩; rw [EU.out]; go_wp2_with fail
      refine (num_down _ _ _).mono ?_; rintro e w' ⟨rfl, rfl⟩; rw [ED.out]; go_wp2_with fail
      refine (lives1_any _).mono ?_; rintro e w5 ⟨rfl, hb5⟩; go_wp2_with fail
      go_ret
      exact ⟨rfl, hb5⟩
    have g4 : 1073741824 < to := by
      by_cases h : 1073741824 < to
      · exact h
      · exact absurd ⟨by omega, by omega, by omega, by omega⟩ HM.out
    go_enter Try.func8, Try.ntmps8
    go_wp2_with fail
    refine (num_up _ _ _).mono ?_; rintro e w' ⟨rfl, rfl⟩; rw [EU.out]; go_wp2_with fail
    refine (num_down _ _ _).mono ?_; rintro e w' ⟨rfl, rfl⟩; rw [ED.out]; go_wp2_with fail
    refine (lives1_any _).mono ?_; rintro e w5 ⟨rfl, hb5⟩; go_wp2_with fail
    go_ret
    exact ⟨rfl, hb5⟩

theorem law_NumTurns_pos (X : Nat) (hX : X < 4294967296) (n m : Nat) (hn : n ≤ 9223372036854775807) (hm : m ≤ 9223372036854775807) (w : World) :
    Calls Try.prog 9 #[.int .u32 X, .int .i64 n, .int .i64 m] w fun e w' => e = .returned (.bool true) ∧ Below w.heap.size w w' := by
  have e1 : rotI (rotI X (n % 32)) (m % 32) = rotI X (n % 32 + m % 32) := rotI_add _ _ _
  have e2 := rotI_32 X hX
  have E1 := Lib.hid e1
  have E2 := Lib.hid e2
  have hl := rotI_lt hX (n % 32)
  clear e1 e2
  obtain ⟨a, ha⟩ : ∃ a, a = n % 32 := ⟨_, rfl⟩
  obtain ⟨b, hb⟩ : ∃ a, a = m % 32 := ⟨_, rfl⟩
  have ha' : (n : Int) % 32 = a := by omega
  have hb' : (m : Int) % 32 = b := by omega
  have ha2 : a < 32 := by omega
  have hb2 : b < 32 := by omega
  rw [← ha, ← hb] at E1
  rw [← ha] at hl
  clear ha hb
  go_enter Try.func9, Try.ntmps9
  go_wp2_with fail
  refine (num_rot_nat X hX a (by omega) _).mono ?_
  rintro e w' ⟨rfl, rfl⟩
  go_wp2_with fail
  refine (num_rot_nat _ hl b (by omega) _).mono ?_
  rintro e w' ⟨rfl, rfl⟩
  rw [E1.out]
  go_wp2_with fail
  refine (num_rot_nat X hX n hn _).mono ?_
  rintro e w' ⟨rfl, rfl⟩
  go_wp2_with fail
  refine (ref1_rot_nat X hX n hn _).mono ?_
  rintro e w' ⟨rfl, rfl⟩
  go_wp2_with fail
  refine (num_rot_nat X hX (a + b) (by omega) _).mono ?_
  rintro e w' ⟨rfl, rfl⟩
  go_wp2_with fail
  refine (num_rot_nat X hX 32 (by omega) _).mono ?_
  rintro e w' ⟨rfl, rfl⟩
  rw [E2.out]
  go_wp2_with fail
  refine (lives1_any _).mono ?_
  rintro e w5 ⟨rfl, hb5⟩
  go_wp2_with fail
  go_ret
  exact ⟨rfl, hb5⟩

theorem law_NumTurns_neg (X : Nat) (hX : X < 4294967296) (n m : Int) (hn0 : -9223372036854775808 ≤ n) (hn1 : n ≤ 9223372036854775807) (hneg : n < 0 ∨ m < 0) (w : World) :
    Calls Try.prog 9 #[.int .u32 X, .int .i64 n, .int .i64 m] w fun e w' => e = .returned (.bool true) ∧ Below w.heap.size w w' := by
  rcases hneg with h | h
  · go_enter Try.func9, Try.ntmps9
    go_wp2_with fail
    refine (num_rot X hX n hn0 hn1 _).mono ?_
    rintro e w' ⟨rfl, rfl⟩
    go_wp2_with fail
    refine (ref1_rot X hX n hn0 hn1 _).mono ?_
    rintro e w' ⟨rfl, rfl⟩
    go_wp2_with fail
    refine (lives1_any _).mono ?_
    rintro e w5 ⟨rfl, hb5⟩
    go_wp2_with fail
    go_ret
    exact ⟨rfl, hb5⟩
  · by_cases hn : n < 0
    · go_enter Try.func9, Try.ntmps9
      go_wp2_with fail
      refine (num_rot X hX n hn0 hn1 _).mono ?_
      rintro e w' ⟨rfl, rfl⟩
      go_wp2_with fail
      refine (ref1_rot X hX n hn0 hn1 _).mono ?_
      rintro e w' ⟨rfl, rfl⟩
      go_wp2_with fail
      refine (lives1_any _).mono ?_
      rintro e w5 ⟨rfl, hb5⟩
      go_wp2_with fail
      go_ret
      exact ⟨rfl, hb5⟩
    · go_enter Try.func9, Try.ntmps9
      go_wp2_with fail
      refine (num_rot X hX n hn0 hn1 _).mono ?_
      rintro e w' ⟨rfl, rfl⟩
      go_wp2_with fail
      refine (ref1_rot X hX n hn0 hn1 _).mono ?_
      rintro e w' ⟨rfl, rfl⟩
      go_wp2_with fail
      refine (lives1_any _).mono ?_
      rintro e w5 ⟨rfl, hb5⟩
      go_wp2_with fail
      go_ret
      exact ⟨rfl, hb5⟩

theorem law_NumTurns (X : Nat) (hX : X < 4294967296) (n m : Int) (hn0 : -9223372036854775808 ≤ n) (hn1 : n ≤ 9223372036854775807) (hm1 : m ≤ 9223372036854775807) (w : World) :
    Calls Try.prog 9 #[.int .u32 X, .int .i64 n, .int .i64 m] w fun e w' => e = .returned (.bool true) ∧ Below w.heap.size w w' := by
  by_cases h : n < 0 ∨ m < 0
  · exact law_NumTurns_neg X hX n m hn0 hn1 h w
  · obtain ⟨a, rfl⟩ := Int.eq_ofNat_of_zero_le (show 0 ≤ n by omega)
    obtain ⟨b, rfl⟩ := Int.eq_ofNat_of_zero_le (show 0 ≤ m by omega)
    exact law_NumTurns_pos X hX a b (by omega) (by omega) w
end Go.Proofs.Ytjbdabjkgpamnaa
