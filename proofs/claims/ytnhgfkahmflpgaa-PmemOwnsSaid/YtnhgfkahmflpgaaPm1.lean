/- pmem: Size, within, bytes, Load, Lasts. No statement of the seat is proved here. -/
import Derived.Test.YtnhgfkahmflpgaaMem
import Derived.Test.YtnhgfkahmflpgaaMemPure
namespace Go.Proofs.Ytnhgfkahmflpgaa
open Go.RowKit

/-- Where a memory lies: itself, its two rows, its set. -/
structure MB where
  p : Nat
  gs : Nat
  gt : Nat
  b : Nat
def MB.F (x : MB) (k : Nat) : Prop := k = x.p ∨ k = x.gs ∨ k = x.gt ∨ k = x.b
def MB.apart (x : MB) : Prop := x.p ≠ x.gs ∧ x.p ≠ x.gt ∧ x.p ≠ x.b ∧ x.gs ≠ x.gt ∧ x.gs ≠ x.b ∧ x.gt ≠ x.b
/-- A memory of N cells: what is seen, what lasts, what is on its way. -/
def PM (w : World) (x : MB) (N : Nat) (S T : List UInt8) (A : List Bool) : Prop := ∃ cs ct, (N % 8 = 0 ∧ 8 ≤ N ∧ N ≤ 131072) ∧ A.length = N ∧ x.apart ∧
  CR w x.p 53 3 1 1 [.slice (some ⟨x.gs, 0, none⟩) N cs, .slice (some ⟨x.gt, 0, none⟩) N ct, .map (some x.b)] ∧ CR w x.gs 62 8 N cs (bvs S) ∧ CR w x.gt 62 8 N ct (bvs T) ∧ SetIs w x.b A
section
variable {w w' : World} {x : MB} {N : Nat} {S T : List UInt8} {A : List Bool}
theorem PM.turn {F : Nat → Prop} (h : PM w x N S T A) (t : Turn F w w') (hF : ∀ k, F k → ¬ x.F k) : PM w' x N S T A := by
  obtain ⟨cs, ct, h1, h2, h3, h4, h5, h6, h7⟩ := h
  exact ⟨cs, ct, h1, h2, h3, h4.turn t (fun q => hF _ q (.inl rfl)), h5.turn t (fun q => hF _ q (.inr (.inl rfl))), h6.turn t (fun q => hF _ q (.inr (.inr (.inl rfl)))), h7.turn t (fun q => hF _ q (.inr (.inr (.inr rfl))))⟩
theorem PM.keep (h : PM w x N S T A) (g : Grow w w') : PM w' x N S T A := h.turn (Turn.grow g fun _ => False) (fun _ q => q.elim)
theorem PM.lenS (h : PM w x N S T A) : S.length = 8 * N := by obtain ⟨cs, ct, h1, h2, h3, h4, h5, h6, h7⟩ := h; have := h5.1; rw [bvs_length] at this; omega
theorem PM.lenT (h : PM w x N S T A) : T.length = 8 * N := by obtain ⟨cs, ct, h1, h2, h3, h4, h5, h6, h7⟩ := h; have := h6.1; rw [bvs_length] at this; omega
theorem PM.lenA (h : PM w x N S T A) : A.length = N := by obtain ⟨cs, ct, h1, h2, h3, h4, h5, h6, h7⟩ := h; exact h2
theorem PM.bound (h : PM w x N S T A) : N % 8 = 0 ∧ 8 ≤ N ∧ N ≤ 131072 := by obtain ⟨cs, ct, h1, h2, h3, h4, h5, h6, h7⟩ := h; exact h1
theorem PM.lt (h : PM w x N S T A) : ∀ k, x.F k → k < w.heap.size := by
  obtain ⟨cs, ct, h1, h2, h3, h4, h5, h6, h7⟩ := h
  rintro k (rfl | rfl | rfl | rfl)
  · exact h4.lt
  · exact h5.lt
  · exact h6.lt
  · exact h7.lt
end
theorem bvs_at {bs : List UInt8} {j : Nat} (hj : j < bs.length) : (bvs bs)[j]? = some (.int .u8 ((bs.getD j 0).toNat : Int)) := by
  rw [bvs_get bs j hj, List.getD_eq_getElem?_getD, List.getElem?_eq_getElem hj]
  rfl

theorem pm_size {w : World} {x : MB} {N : Nat} {S T : List UInt8} {A : List Bool} (h : PM w x N S T A) :
    Calls Try.prog 10 #[.pointer (some ⟨x.p, 0, none⟩)] w fun e w' => e = .returned (.int .i64 ((N : Int) * 8)) ∧ w = w' := by
  obtain ⟨cs, ct, ⟨h1, h1', h1''⟩, h2, h3, h4, h5, h6, h7⟩ := h
  have c0 := h4.cell (j := 0) rfl
  have l0 := h4.lt
  have e1 : wrap64 ((N : Int) * 8) = (N : Int) * 8 := IntWalk.wrap64_in _ (by omega)
  clear h4 h5 h6 h7 h1 h2 h3
  go_enter Try.func10, Try.ntmps10
  go_wp2_with fail
  go_ret
  exact ⟨rfl, rfl⟩

theorem pm_within {w : World} {x : MB} {N : Nat} {S T : List UInt8} {A : List Bool} (h : PM w x N S T A) (at_ n : Int) (hn : -9223372036854775808 ≤ n) (hn' : n ≤ 9223372036854775807) :
    Calls Try.prog 31 #[.pointer (some ⟨x.p, 0, none⟩), .int .i64 at_, .int .i64 n] w fun e w' => e = .returned (.bool (inW (8 * N) at_ n)) ∧ w = w' := by
  obtain ⟨hb1, hb2, hb3⟩ := h.bound
  by_cases h1 : 0 ≤ at_
  · by_cases h2 : 0 ≤ n
    · by_cases h3 : at_ ≤ (N : Int) * 8
      · have hs := (pm_size h)
        have e1 : wrap64 ((N : Int) * 8 - at_) = (N : Int) * 8 - at_ := IntWalk.wrap64_in _ (by omega)
        have e2 : inW (8 * N) at_ n = decide (n ≤ (N : Int) * 8 - at_) := by simp only [inW]; congr 1; apply propext; omega
        have d1 : decide (0 ≤ at_) = true := decide_eq_true h1
        have d2 : decide (0 ≤ n) = true := decide_eq_true h2
        have d3 : decide (at_ ≤ (N : Int) * 8) = true := decide_eq_true h3
        rw [e2]
        clear e2 h h1 h2 h3
        go_enter Try.func31, Try.ntmps31
        go_wp2_with (go_at_call 10; refine hs.mono ?_; rintro e w1 ⟨rfl, rfl⟩)
        go_ret
        exact ⟨rfl, rfl⟩
      · have hs := (pm_size h)
        have e2 : inW (8 * N) at_ n = false := by simp only [inW]; apply decide_eq_false; omega
        have d1 : decide (0 ≤ at_) = true := decide_eq_true h1
        have d2 : decide (0 ≤ n) = true := decide_eq_true h2
        have d3 : decide (at_ ≤ (N : Int) * 8) = false := decide_eq_false h3
        rw [e2]
        clear e2 h h1 h2 h3
        go_enter Try.func31, Try.ntmps31
        go_wp2_with (go_at_call 10; refine hs.mono ?_; rintro e w1 ⟨rfl, rfl⟩)
        go_ret
        exact ⟨rfl, rfl⟩
    · have e2 : inW (8 * N) at_ n = false := by simp only [inW]; apply decide_eq_false; omega
      have d1 : decide (0 ≤ at_) = true := decide_eq_true h1
      have d2 : decide (0 ≤ n) = false := decide_eq_false h2
      rw [e2]
      clear e2 h h1 h2
      go_enter Try.func31, Try.ntmps31
      go_wp2_with fail
      go_ret
      exact ⟨rfl, rfl⟩
  · have e2 : inW (8 * N) at_ n = false := by simp only [inW]; apply decide_eq_false; omega
    have d1 : decide (0 ≤ at_) = false := decide_eq_false h1
    rw [e2]
    clear e2 h h1
    go_enter Try.func31, Try.ntmps31
    go_wp2_with fail
    go_ret
    exact ⟨rfl, rfl⟩

theorem tdiv8 {k q : Nat} (h : q = k / 8) : Int.tdiv (k : Int) 8 = (q : Int) := by rw [Int.tdiv_eq_ediv_of_nonneg (by omega)]; omega
theorem tmod8 {k r : Nat} (h : r = k % 8) : Int.tmod (k : Int) 8 = (r : Int) := by rw [Int.tmod_eq_emod_of_nonneg (by omega)]; omega
theorem wrapS {k M : Nat} (h : k < M) (h' : M ≤ 8 * 131072) : wrap64 ((k : Int) + 1) = (k : Int) + 1 := IntWalk.wrap64_in _ (by omega)
theorem meas {M k : Nat} (h : k < M) : M - (intOf (.int .i64 ((k : Int) + 1))).toNat < M - (intOf (.int .i64 (k : Int))).toNat := by simp [intOf]; omega
theorem measW {M k : Nat} (h : k < M) (e : wrap64 ((k : Int) + 1) = (k : Int) + 1) : M - (intOf (.int .i64 (wrap64 ((k : Int) + 1)))).toNat < M - (intOf (.int .i64 (k : Int))).toNat := by rw [e]; exact meas h
theorem wrapN {q N : Nat} (h : q < N) (h' : N ≤ 131072) : wrap64 (q : Int) = (q : Int) := IntWalk.wrap64_in _ (by omega)

/-- What holds at each round of 'bytes'. -/
def BytesInv (w wr : World) (L : List UInt8) (a m : Nat) (out i : Value) : Prop := ∃ k : Nat, i = .int .i64 (k : Int) ∧ a ≤ k ∧ k ≤ a + m ∧ OB wr w.heap.size out ((L.drop a).take (k - a)) ∧ Grow w wr

theorem pm_bytes_no {w : World} {x : MB} {N : Nat} {S T : List UInt8} {A : List Bool} (h : PM w x N S T A) (l : Value) (at_ n : Int) (hn : -9223372036854775808 ≤ n) (hn' : n ≤ 9223372036854775807) (hin : inW (8 * N) at_ n = false) :
    Calls Try.prog 35 #[.pointer (some ⟨x.p, 0, none⟩), l, .int .i64 at_, .int .i64 n] w fun e w' => e = .returned (.tuple #[.slice none 0 0, .int .i64 1]) ∧ w = w' := by
  have hw := pm_within h at_ n hn hn'
  rw [hin] at hw
  clear hin h hn hn'
  go_enter Try.func35, Try.ntmps35
  go_wp2_with fail
  refine hw.mono ?_
  rintro e w1 ⟨rfl, rfl⟩
  go_wp2_with fail
  go_ret2
  exact ⟨rfl, rfl⟩

set_option maxHeartbeats 1000000 in
theorem pm_bytes {w : World} {x : MB} {N : Nat} {S T : List UInt8} {A : List Bool} (h : PM w x N S T A) {g c : Nat} {L : List UInt8} (hr : CR w g 62 8 N c (bvs L)) (a m : Nat) (hA : a + m ≤ 8 * N) :
    Calls Try.prog 35 #[.pointer (some ⟨x.p, 0, none⟩), .slice (some ⟨g, 0, none⟩) N c, .int .i64 (a : Nat), .int .i64 (m : Nat)] w fun e w' =>
      ∃ A' c', e = .returned (.tuple #[.slice A' m c', .int .i64 0]) ∧ Own w' w.heap.size A' m c' ((L.drop a).take m) ∧ Grow w w' := by
  obtain ⟨hb1, hb2, hb3⟩ := h.bound
  have hw := pm_within h (a : Int) (m : Int) (by omega) (by omega)
  rw [inW_iff.2 (by omega)] at hw
  have hL : L.length = 8 * N := by have := hr.1; rw [bvs_length] at this; omega
  have HL := Lib.hid hL
  have hcap : N ≤ c := hr.2.1
  have hlt := hr.lt
  have e1 : wrap64 ((a : Int) + (m : Int)) = (a : Int) + (m : Int) := IntWalk.wrap64_in _ (by omega)
  have HB := Lib.hid hb3
  clear h hL hb3 hb1 hb2
  go_enter Try.func35, Try.ntmps35
  go_wp2_with fail
  refine hw.mono ?_
  rintro e w1 ⟨rfl, rfl⟩
  clear hw
  go_wp2_with fail
  go_loopw [10, 11] (fun out i wr => BytesInv w wr L a m out i) (fun _ i _ => a + m - (intOf i).toNat)
  case atStart => exact ⟨a, rfl, by omega, by omega, by rw [Nat.sub_self, List.take_zero]; exact OB.nil _ _, Grow.refl _⟩
  case round =>
    obtain ⟨k, rfl, hak, hk, ho, G⟩ := hrel
    by_cases hlt2 : k < a + m
    · obtain ⟨q, hq⟩ : ∃ q, q = k / 8 := ⟨_, rfl⟩
      obtain ⟨r, hr8⟩ : ∃ r, r = k % 8 := ⟨_, rfl⟩
      have hj : k < L.length := by rw [HL.out]; omega
      have c0 := G.cell (hr.cell (bvs_at hj))
      have hqN : q < N := by omega
      have hr8' : r < 8 := by omega
      have z1 : decide ((k : Int) < (a : Int) + (m : Int)) = true := decide_eq_true (by omega)
      obtain ⟨u, hu⟩ : ∃ u, u = L.getD k 0 := ⟨_, rfl⟩
      rw [← hu, show k = q * 8 + r by omega] at c0
      have HO := Lib.hid (show (L.drop a).take (k + 1 - a) = (L.drop a).take (k - a) ++ [u] by
        rw [show k + 1 - a = (k - a) + 1 by omega, List.take_succ_eq_append_getElem (by rw [List.length_drop]; omega), hu]
        congr 2
        rw [List.getElem_drop, List.getD_eq_getElem?_getD, List.getElem?_eq_getElem hj]
        simp only [Option.getD_some, show a + (k - a) = k by omega])
      have hlen : ((L.drop a).take (k - a)).length ≤ 2000000 := by rw [List.length_take, List.length_drop, HL.out]; have := HB.out; omega
      have HLEN := Lib.hid hlen
      have hz := Below.size G
      clear hu hj hlen
      have hlen' : ((L.drop a).take (k - a)).length + 1 ≤ 140737488355328 := by have := HLEN.out; omega
      have HL2 := Lib.hid hlen'
      clear hlen'
      have e2 := tdiv8 hq
      have e3 := tmod8 hr8
      have e4 := wrapN hqN HB.out
      have e5 := wrapS (Nat.lt_of_lt_of_le hlt2 hA) (Nat.mul_le_mul_left 8 HB.out)
      clear hq hr8
      go_wp2_with (at_builtin; refine wpList_app1 rfl (.tmp 25) (.tmp 34) rfl w.heap.size _ ((L.drop a).take (k - a)) rfl _ rfl ho u rfl HL2.out hz ?_; intro v1 w2 o2 g2)
      have X : BytesInv w w2 L a m v1 (.int .i64 ((k : Int) + 1)) := ⟨k + 1, by simp, by clear e2 e3 e4 e5 e1; omega, by clear e2 e3 e4 e5 e1; omega, by rw [HO.out]; exact o2, G.low g2⟩
      go_roundw
      case rel => (try rw [e5]); first | exact X | ((repeat apply Exists.intro); exact X) | ((repeat apply Exists.intro); refine ⟨X, ?_⟩; rfl)
      case measure => first | exact meas hlt2 | exact measW hlt2 e5
    · have z1 : decide ((k : Int) < (a : Int) + (m : Int)) = false := decide_eq_false (by omega)
      go_wp2_with fail
      obtain rfl : k = a + m := by omega
      obtain ⟨A1, c1, rfl, ho1⟩ := Own.ofOB ho m (by rw [List.length_take, List.length_drop, HL.out]; omega) (by have := HB.out; omega)
      rw [Nat.add_sub_cancel_left] at ho1
      go_wp2_with fail
      go_ret2
      exact ⟨_, _, rfl, ho1, G⟩

theorem pm_load {w : World} {x : MB} {N : Nat} {S T : List UInt8} {A : List Bool} (h : PM w x N S T A) (a m : Nat) (hA : a + m ≤ 8 * N) :
    Calls Try.prog 16 #[.pointer (some ⟨x.p, 0, none⟩), .int .i64 (a : Nat), .int .i64 (m : Nat)] w fun e w' =>
      ∃ A' c', e = .returned (.tuple #[.slice A' m c', .int .i64 0]) ∧ Own w' w.heap.size A' m c' ((S.drop a).take m) ∧ Grow w w' := by
  obtain ⟨cs, ct, h1, h2, h3, h4, h5, h6, h7⟩ := id h
  have c0 := h4.cell (j := 0) rfl
  have l0 := h4.lt
  have HB := Lib.hid (pm_bytes h h5 a m hA)
  clear h h1 h2 h3 h4 h5 h6 h7
  go_enter Try.func16, Try.ntmps16
  go_wp2_with fail
  refine HB.out.mono ?_
  rintro e w1 ⟨A', c', rfl, ho, g⟩
  go_wp2_with fail
  go_ret2
  exact ⟨_, _, rfl, ho, g⟩
theorem pm_load_no {w : World} {x : MB} {N : Nat} {S T : List UInt8} {A : List Bool} (h : PM w x N S T A) (at_ n : Int) (hn : -9223372036854775808 ≤ n) (hn' : n ≤ 9223372036854775807) (hin : inW (8 * N) at_ n = false) :
    Calls Try.prog 16 #[.pointer (some ⟨x.p, 0, none⟩), .int .i64 at_, .int .i64 n] w fun e w' => e = .returned (.tuple #[.slice none 0 0, .int .i64 1]) ∧ w = w' := by
  obtain ⟨cs, ct, h1, h2, h3, h4, h5, h6, h7⟩ := id h
  have c0 := h4.cell (j := 0) rfl
  have l0 := h4.lt
  have HB := fun l => Lib.hid (pm_bytes_no h l at_ n hn hn' hin)
  clear h h1 h2 h3 h4 h5 h6 h7 hn hn' hin
  go_enter Try.func16, Try.ntmps16
  go_wp2_with fail
  refine (HB _).out.mono ?_
  rintro e w1 ⟨rfl, rfl⟩
  go_wp2_with fail
  go_ret2
  exact ⟨rfl, rfl⟩
theorem pm_lasts {w : World} {x : MB} {N : Nat} {S T : List UInt8} {A : List Bool} (h : PM w x N S T A) (a m : Nat) (hA : a + m ≤ 8 * N) :
    Calls Try.prog 20 #[.pointer (some ⟨x.p, 0, none⟩), .int .i64 (a : Nat), .int .i64 (m : Nat)] w fun e w' =>
      ∃ A' c', e = .returned (.tuple #[.slice A' m c', .int .i64 0]) ∧ Own w' w.heap.size A' m c' ((T.drop a).take m) ∧ Grow w w' := by
  obtain ⟨cs, ct, h1, h2, h3, h4, h5, h6, h7⟩ := id h
  have c0 := h4.cell (j := 1) rfl
  have l0 := h4.lt
  have HB := Lib.hid (pm_bytes h h6 a m hA)
  clear h h1 h2 h3 h4 h5 h6 h7
  go_enter Try.func20, Try.ntmps20
  go_wp2_with fail
  refine HB.out.mono ?_
  rintro e w1 ⟨A', c', rfl, ho, g⟩
  go_wp2_with fail
  go_ret2
  exact ⟨_, _, rfl, ho, g⟩
end Go.Proofs.Ytnhgfkahmflpgaa
