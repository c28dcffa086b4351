/- pmem: Size, within, bytes, Load, Lasts. pmem: Store, keep. pmem: keep. Rows of ints; commonsref03.SameInts. No statement of the seat is proved here. -/
import Derived.Test.YtlinlmimakealaaZ03
import Derived.RegionTactic
import Derived.Deep.RegionWith
import Derived.Deep.DeepCutAuto
namespace Go.Proofs.Ytlinlmimakealaa
open Go.RowKit

/-- Where a memory lies: itself, its two rows, its set. -/
structure MB where
  p : Nat
  gs : Nat
  gt : Nat
  b : Nat
def MB.F (x : MB) (k : Nat) : Prop := k = x.p ∨ k = x.gs ∨ k = x.gt ∨ k = x.b
def MB.apart (x : MB) : Prop := x.p ≠ x.gs ∧ x.p ≠ x.gt ∧ x.p ≠ x.b ∧ x.gs ≠ x.gt ∧ x.gs ≠ x.b ∧ x.gt ≠ x.b
/-- A memory of N cells: what is seen, what lasts, what is on its way. -/
def PM (w : World) (x : MB) (N : Nat) (S T : List UInt8) (A : List Bool) : Prop := ∃ cs ct, (N % 8 = 0 ∧ 8 ≤ N ∧ N ≤ 131072) ∧ A.length = N ∧ x.apart ∧
  CR w x.p 76 3 1 1 [.slice (some ⟨x.gs, 0, none⟩) N cs, .slice (some ⟨x.gt, 0, none⟩) N ct, .map (some x.b)] ∧ CR w x.gs 79 8 N cs (bvs S) ∧ CR w x.gt 79 8 N ct (bvs T) ∧ SetIs w x.b A
section
variable {w w' : World} {x : MB} {N : Nat} {S T : List UInt8} {A : List Bool}
theorem PM.turn {F : Nat → Prop} (h : PM w x N S T A) (t : Turn F w w') (hF : ∀ k, F k → ¬ x.F k) : PM w' x N S T A := by
  obtain ⟨cs, ct, h1, h2, h3, h4, h5, h6, h7⟩ := h
  exact ⟨cs, ct, h1, h2, h3, h4.turn t (fun q => hF _ q (.inl rfl)), h5.turn t (fun q => hF _ q (.inr (.inl rfl))), h6.turn t (fun q => hF _ q (.inr (.inr (.inl rfl)))), h7.turn t (fun q => hF _ q (.inr (.inr (.inr rfl))))⟩
theorem PM.keep (h : PM w x N S T A) (g : Grow w w') : PM w' x N S T A := h.turn (Turn.grow g fun _ => False) (fun _ q => q.elim)
theorem PM.lenS (h : PM w x N S T A) : S.length = 8 * N := by obtain ⟨cs, ct, h1, h2, h3, h4, h5, h6, h7⟩ := h; have := h5.1; rw [bvs_length] at this; omega
theorem PM.lenT (h : PM w x N S T A) : T.length = 8 * N := by obtain ⟨cs, ct, h1, h2, h3, h4, h5, h6, h7⟩ := h; have := h6.1; rw [bvs_length] at this; omega
theorem PM.lenA (h : PM w x N S T A) : A.length = N := by obtain ⟨cs, ct, h1, h2, h3, h4, h5, h6, h7⟩ := h; exact h2
theorem PM.bound (h : PM w x N S T A) : N % 8 = 0 ∧ 8 ≤ N ∧ N ≤ 131072 := by obtain ⟨cs, ct, h1, h2, h3, h4, h5, h6, h7⟩ := h; exact h1
theorem PM.lt (h : PM w x N S T A) : ∀ k, x.F k → k < w.heap.size := by
  obtain ⟨cs, ct, h1, h2, h3, h4, h5, h6, h7⟩ := h
  rintro k (rfl | rfl | rfl | rfl)
  · exact h4.lt
  · exact h5.lt
  · exact h6.lt
  · exact h7.lt
end
theorem bvs_at {bs : List UInt8} {j : Nat} (hj : j < bs.length) : (bvs bs)[j]? = some (.int .u8 ((bs.getD j 0).toNat : Int)) := by
  rw [bvs_get bs j hj, List.getD_eq_getElem?_getD, List.getElem?_eq_getElem hj]
  rfl

theorem pm_size {w : World} {x : MB} {N : Nat} {S T : List UInt8} {A : List Bool} (h : PM w x N S T A) :
    Calls Try.prog 55 #[.pointer (some ⟨x.p, 0, none⟩)] w fun e w' => e = .returned (.int .i64 ((N : Int) * 8)) ∧ w = w' := by
  obtain ⟨cs, ct, ⟨h1, h1', h1''⟩, h2, h3, h4, h5, h6, h7⟩ := h
  have c0 := h4.cell (j := 0) rfl
  have l0 := h4.lt
  have e1 : wrap64 ((N : Int) * 8) = (N : Int) * 8 := IntWalk.wrap64_in _ (by omega)
  clear h4 h5 h6 h7 h1 h2 h3
  go_enter Try.func55, Try.ntmps55
  go_wp2_with fail
  go_ret
  exact ⟨rfl, rfl⟩

theorem pm_within {w : World} {x : MB} {N : Nat} {S T : List UInt8} {A : List Bool} (h : PM w x N S T A) (at_ n : Int) (hn : -9223372036854775808 ≤ n) (hn' : n ≤ 9223372036854775807) :
    Calls Try.prog 38 #[.pointer (some ⟨x.p, 0, none⟩), .int .i64 at_, .int .i64 n] w fun e w' => e = .returned (.bool (inW (8 * N) at_ n)) ∧ w = w' := by
  obtain ⟨hb1, hb2, hb3⟩ := h.bound
  by_cases h1 : 0 ≤ at_
  · by_cases h2 : 0 ≤ n
    · by_cases h3 : at_ ≤ (N : Int) * 8
      · have hs := (pm_size h)
        have e1 : wrap64 ((N : Int) * 8 - at_) = (N : Int) * 8 - at_ := IntWalk.wrap64_in _ (by omega)
        have e2 : inW (8 * N) at_ n = decide (n ≤ (N : Int) * 8 - at_) := by simp only [inW]; congr 1; apply propext; omega
        have d1 : decide (0 ≤ at_) = true := decide_eq_true h1
        have d2 : decide (0 ≤ n) = true := decide_eq_true h2
        have d3 : decide (at_ ≤ (N : Int) * 8) = true := decide_eq_true h3
        rw [e2]
        clear e2 h h1 h2 h3
        go_enter Try.func38, Try.ntmps38
        go_wp2_with (go_at_call 55; refine hs.mono ?_; rintro e w1 ⟨rfl, rfl⟩)
        go_ret
        exact ⟨rfl, rfl⟩
      · have hs := (pm_size h)
        have e2 : inW (8 * N) at_ n = false := by simp only [inW]; apply decide_eq_false; omega
        have d1 : decide (0 ≤ at_) = true := decide_eq_true h1
        have d2 : decide (0 ≤ n) = true := decide_eq_true h2
        have d3 : decide (at_ ≤ (N : Int) * 8) = false := decide_eq_false h3
        rw [e2]
        clear e2 h h1 h2 h3
        go_enter Try.func38, Try.ntmps38
        go_wp2_with (go_at_call 55; refine hs.mono ?_; rintro e w1 ⟨rfl, rfl⟩)
        go_ret
        exact ⟨rfl, rfl⟩
    · have e2 : inW (8 * N) at_ n = false := by simp only [inW]; apply decide_eq_false; omega
      have d1 : decide (0 ≤ at_) = true := decide_eq_true h1
      have d2 : decide (0 ≤ n) = false := decide_eq_false h2
      rw [e2]
      clear e2 h h1 h2
      go_enter Try.func38, Try.ntmps38
      go_wp2_with fail
      go_ret
      exact ⟨rfl, rfl⟩
  · have e2 : inW (8 * N) at_ n = false := by simp only [inW]; apply decide_eq_false; omega
    have d1 : decide (0 ≤ at_) = false := decide_eq_false h1
    rw [e2]
    clear e2 h h1
    go_enter Try.func38, Try.ntmps38
    go_wp2_with fail
    go_ret
    exact ⟨rfl, rfl⟩

theorem tdiv8 {k q : Nat} (h : q = k / 8) : Int.tdiv (k : Int) 8 = (q : Int) := by rw [Int.tdiv_eq_ediv_of_nonneg (by omega)]; omega
theorem tmod8 {k r : Nat} (h : r = k % 8) : Int.tmod (k : Int) 8 = (r : Int) := by rw [Int.tmod_eq_emod_of_nonneg (by omega)]; omega
theorem wrapS {k M : Nat} (h : k < M) (h' : M ≤ 8 * 131072) : wrap64 ((k : Int) + 1) = (k : Int) + 1 := IntWalk.wrap64_in _ (by omega)
theorem meas {M k : Nat} (h : k < M) : M - (intOf (.int .i64 ((k : Int) + 1))).toNat < M - (intOf (.int .i64 (k : Int))).toNat := by simp [intOf]; omega
theorem measW {M k : Nat} (h : k < M) (e : wrap64 ((k : Int) + 1) = (k : Int) + 1) : M - (intOf (.int .i64 (wrap64 ((k : Int) + 1)))).toNat < M - (intOf (.int .i64 (k : Int))).toNat := by rw [e]; exact meas h
theorem wrapN {q N : Nat} (h : q < N) (h' : N ≤ 131072) : wrap64 (q : Int) = (q : Int) := IntWalk.wrap64_in _ (by omega)

/-- What holds at each round of 'bytes'. -/
def BytesInv (w wr : World) (L : List UInt8) (a m : Nat) (out i : Value) : Prop := ∃ k : Nat, i = .int .i64 (k : Int) ∧ a ≤ k ∧ k ≤ a + m ∧ OB wr w.heap.size out ((L.drop a).take (k - a)) ∧ Grow w wr

theorem pm_bytes_no {w : World} {x : MB} {N : Nat} {S T : List UInt8} {A : List Bool} (h : PM w x N S T A) (l : Value) (at_ n : Int) (hn : -9223372036854775808 ≤ n) (hn' : n ≤ 9223372036854775807) (hin : inW (8 * N) at_ n = false) :
    Calls Try.prog 36 #[.pointer (some ⟨x.p, 0, none⟩), l, .int .i64 at_, .int .i64 n] w fun e w' => e = .returned (.tuple #[.slice none 0 0, .int .i64 1]) ∧ w = w' := by
  have hw := pm_within h at_ n hn hn'
  rw [hin] at hw
  clear hin h hn hn'
  go_enter Try.func36, Try.ntmps36
  go_wp2_with fail
  refine hw.mono ?_
  rintro e w1 ⟨rfl, rfl⟩
  go_wp2_with fail
  go_ret2
  exact ⟨rfl, rfl⟩

set_option maxHeartbeats 1000000 in
theorem pm_bytes {w : World} {x : MB} {N : Nat} {S T : List UInt8} {A : List Bool} (h : PM w x N S T A) {g c : Nat} {L : List UInt8} (hr : CR w g 79 8 N c (bvs L)) (a m : Nat) (hA : a + m ≤ 8 * N) :
    Calls Try.prog 36 #[.pointer (some ⟨x.p, 0, none⟩), .slice (some ⟨g, 0, none⟩) N c, .int .i64 (a : Nat), .int .i64 (m : Nat)] w fun e w' =>
      ∃ A' c', e = .returned (.tuple #[.slice A' m c', .int .i64 0]) ∧ Own w' w.heap.size A' m c' ((L.drop a).take m) ∧ Grow w w' := by
  obtain ⟨hb1, hb2, hb3⟩ := h.bound
  have hw := pm_within h (a : Int) (m : Int) (by omega) (by omega)
  rw [inW_iff.2 (by omega)] at hw
  have hL : L.length = 8 * N := by have := hr.1; rw [bvs_length] at this; omega
  have HL := Lib.hid hL
  have hcap : N ≤ c := hr.2.1
  have hlt := hr.lt
  have e1 : wrap64 ((a : Int) + (m : Int)) = (a : Int) + (m : Int) := IntWalk.wrap64_in _ (by omega)
  have HB := Lib.hid hb3
  clear h hL hb3 hb1 hb2
  go_enter Try.func36, Try.ntmps36
  go_wp2_with fail
  refine hw.mono ?_
  rintro e w1 ⟨rfl, rfl⟩
  clear hw
  go_wp2_with fail
  go_loopw [10, 11] (fun out i wr => BytesInv w wr L a m out i) (fun _ i _ => a + m - (intOf i).toNat)
  case atStart => exact ⟨a, rfl, by omega, by omega, by rw [Nat.sub_self, List.take_zero]; exact OB.nil _ _, Grow.refl _⟩
  case round =>
    obtain ⟨k, rfl, hak, hk, ho, G⟩ := hrel
    by_cases hlt2 : k < a + m
    · obtain ⟨q, hq⟩ : ∃ q, q = k / 8 := ⟨_, rfl⟩
      obtain ⟨r, hr8⟩ : ∃ r, r = k % 8 := ⟨_, rfl⟩
      have hj : k < L.length := by rw [HL.out]; omega
      have c0 := G.cell (hr.cell (bvs_at hj))
      have hqN : q < N := by omega
      have hr8' : r < 8 := by omega
      have z1 : decide ((k : Int) < (a : Int) + (m : Int)) = true := decide_eq_true (by omega)
      obtain ⟨u, hu⟩ : ∃ u, u = L.getD k 0 := ⟨_, rfl⟩
      rw [← hu, show k = q * 8 + r by omega] at c0
      have HO := Lib.hid (show (L.drop a).take (k + 1 - a) = (L.drop a).take (k - a) ++ [u] by
        rw [show k + 1 - a = (k - a) + 1 by omega, List.take_succ_eq_append_getElem (by rw [List.length_drop]; omega), hu]
        congr 2
        rw [List.getElem_drop, List.getD_eq_getElem?_getD, List.getElem?_eq_getElem hj]
        simp only [Option.getD_some, show a + (k - a) = k by omega])
      have hlen : ((L.drop a).take (k - a)).length ≤ 2000000 := by rw [List.length_take, List.length_drop, HL.out]; have := HB.out; omega
      have HLEN := Lib.hid hlen
      have hz := Below.size G
      clear hu hj hlen
      have hlen' : ((L.drop a).take (k - a)).length + 1 ≤ 140737488355328 := by have := HLEN.out; omega
      have HL2 := Lib.hid hlen'
      clear hlen'
      have e2 := tdiv8 hq
      have e3 := tmod8 hr8
      have e4 := wrapN hqN HB.out
      have e5 := wrapS (Nat.lt_of_lt_of_le hlt2 hA) (Nat.mul_le_mul_left 8 HB.out)
      clear hq hr8
      go_wp2_with (at_builtin; refine wpList_app1 rfl (.tmp 25) (.tmp 34) rfl w.heap.size _ ((L.drop a).take (k - a)) rfl _ rfl ho u rfl HL2.out hz ?_; intro v1 w2 o2 g2)
      have X : BytesInv w w2 L a m v1 (.int .i64 ((k : Int) + 1)) := ⟨k + 1, by simp, by clear e2 e3 e4 e5 e1; omega, by clear e2 e3 e4 e5 e1; omega, by rw [HO.out]; exact o2, G.low g2⟩
      go_roundw
      case rel => (try rw [e5]); first | exact X | ((repeat apply Exists.intro); exact X) | ((repeat apply Exists.intro); refine ⟨X, ?_⟩; rfl)
      case measure => first | exact meas hlt2 | exact measW hlt2 e5
    · have z1 : decide ((k : Int) < (a : Int) + (m : Int)) = false := decide_eq_false (by omega)
      go_wp2_with fail
      obtain rfl : k = a + m := by omega
      obtain ⟨A1, c1, rfl, ho1⟩ := Own.ofOB ho m (by rw [List.length_take, List.length_drop, HL.out]; omega) (by have := HB.out; omega)
      rw [Nat.add_sub_cancel_left] at ho1
      go_wp2_with fail
      go_ret2
      exact ⟨_, _, rfl, ho1, G⟩

theorem pm_load {w : World} {x : MB} {N : Nat} {S T : List UInt8} {A : List Bool} (h : PM w x N S T A) (a m : Nat) (hA : a + m ≤ 8 * N) :
    Calls Try.prog 14 #[.pointer (some ⟨x.p, 0, none⟩), .int .i64 (a : Nat), .int .i64 (m : Nat)] w fun e w' =>
      ∃ A' c', e = .returned (.tuple #[.slice A' m c', .int .i64 0]) ∧ Own w' w.heap.size A' m c' ((S.drop a).take m) ∧ Grow w w' := by
  obtain ⟨cs, ct, h1, h2, h3, h4, h5, h6, h7⟩ := id h
  have c0 := h4.cell (j := 0) rfl
  have l0 := h4.lt
  have HB := Lib.hid (pm_bytes h h5 a m hA)
  clear h h1 h2 h3 h4 h5 h6 h7
  go_enter Try.func14, Try.ntmps14
  go_wp2_with fail
  refine HB.out.mono ?_
  rintro e w1 ⟨A', c', rfl, ho, g⟩
  go_wp2_with fail
  go_ret2
  exact ⟨_, _, rfl, ho, g⟩
theorem pm_load_no {w : World} {x : MB} {N : Nat} {S T : List UInt8} {A : List Bool} (h : PM w x N S T A) (at_ n : Int) (hn : -9223372036854775808 ≤ n) (hn' : n ≤ 9223372036854775807) (hin : inW (8 * N) at_ n = false) :
    Calls Try.prog 14 #[.pointer (some ⟨x.p, 0, none⟩), .int .i64 at_, .int .i64 n] w fun e w' => e = .returned (.tuple #[.slice none 0 0, .int .i64 1]) ∧ w = w' := by
  obtain ⟨cs, ct, h1, h2, h3, h4, h5, h6, h7⟩ := id h
  have c0 := h4.cell (j := 0) rfl
  have l0 := h4.lt
  have HB := fun l => Lib.hid (pm_bytes_no h l at_ n hn hn' hin)
  clear h h1 h2 h3 h4 h5 h6 h7 hn hn' hin
  go_enter Try.func14, Try.ntmps14
  go_wp2_with fail
  refine (HB _).out.mono ?_
  rintro e w1 ⟨rfl, rfl⟩
  go_wp2_with fail
  go_ret2
  exact ⟨rfl, rfl⟩
theorem pm_lasts {w : World} {x : MB} {N : Nat} {S T : List UInt8} {A : List Bool} (h : PM w x N S T A) (a m : Nat) (hA : a + m ≤ 8 * N) :
    Calls Try.prog 16 #[.pointer (some ⟨x.p, 0, none⟩), .int .i64 (a : Nat), .int .i64 (m : Nat)] w fun e w' =>
      ∃ A' c', e = .returned (.tuple #[.slice A' m c', .int .i64 0]) ∧ Own w' w.heap.size A' m c' ((T.drop a).take m) ∧ Grow w w' := by
  obtain ⟨cs, ct, h1, h2, h3, h4, h5, h6, h7⟩ := id h
  have c0 := h4.cell (j := 1) rfl
  have l0 := h4.lt
  have HB := Lib.hid (pm_bytes h h6 a m hA)
  clear h h1 h2 h3 h4 h5 h6 h7
  go_enter Try.func16, Try.ntmps16
  go_wp2_with fail
  refine HB.out.mono ?_
  rintro e w1 ⟨A', c', rfl, ho, g⟩
  go_wp2_with fail
  go_ret2
  exact ⟨_, _, rfl, ho, g⟩
end Go.Proofs.Ytlinlmimakealaa

namespace Go.Proofs.Ytlinlmimakealaa
open Go.RowKit
section
variable {w w' : World} {x : MB} {N : Nat} {S T : List UInt8} {A : List Bool}
theorem PM.view (h : PM w x N S T A) : ∃ cs ct, N ≤ cs ∧ N ≤ ct ∧ w.cell? ⟨x.p, 0, none⟩ = some (.slice (some ⟨x.gs, 0, none⟩) N cs) ∧ w.cell? ⟨x.p, 1, none⟩ = some (.slice (some ⟨x.gt, 0, none⟩) N ct) ∧ w.cell? ⟨x.p, 2, none⟩ = some (.map (some x.b)) ∧ x.p < w.heap.size := by
  obtain ⟨cs, ct, h1, h2, h3, h4, h5, h6, h7⟩ := h
  exact ⟨cs, ct, h5.2.1, h6.2.1, h4.cell rfl, h4.cell rfl, h4.cell rfl, h4.lt⟩
theorem PM.isSet (h : PM w x N S T A) : SetIs w x.b A := by obtain ⟨cs, ct, h1, h2, h3, h4, h5, h6, h7⟩ := h; exact h7
theorem PM.apart (h : PM w x N S T A) : x.apart := by obtain ⟨cs, ct, h1, h2, h3, h4, h5, h6, h7⟩ := h; exact h3
theorem PM.seenAt (h : PM w x N S T A) {j : Nat} (hj : j < 8 * N) : w.cell? ⟨x.gs, j, none⟩ = some (.int .u8 ((S.getD j 0).toNat : Int)) ∧ w.frozen? ⟨x.gs, j, none⟩ = false := by
  have hl := h.lenS
  obtain ⟨cs, ct, h1, h2, h3, h4, h5, h6, h7⟩ := h
  exact ⟨h5.cell (bvs_at (by omega)), h5.frozen j⟩
theorem PM.lastAt (h : PM w x N S T A) {j : Nat} (hj : j < 8 * N) : w.cell? ⟨x.gt, j, none⟩ = some (.int .u8 ((T.getD j 0).toNat : Int)) ∧ w.frozen? ⟨x.gt, j, none⟩ = false := by
  have hl := h.lenT
  obtain ⟨cs, ct, h1, h2, h3, h4, h5, h6, h7⟩ := h
  exact ⟨h6.cell (bvs_at (by omega)), h6.frozen j⟩
theorem PM.seenSet (h : PM w x N S T A) (j : Nat) (u : UInt8) : PM (w.setCell ⟨x.gs, j, none⟩ (.int .u8 (u.toNat : Int))) x N (S.set j u) T A ∧ Turn x.F w (w.setCell ⟨x.gs, j, none⟩ (.int .u8 (u.toNat : Int))) := by
  obtain ⟨cs, ct, h1, h2, h3, h4, h5, h6, h7⟩ := h
  have hk : ∀ k, k ≠ x.gs → (w.setCell ⟨x.gs, j, none⟩ (.int .u8 (u.toNat : Int))).heap[k]? = w.heap[k]? := fun k hk => Below.heap_setCell _ _ _ _ hk
  refine ⟨⟨cs, ct, h1, h2, h3, h4.same (hk _ h3.1), ?_, h6.same (hk _ (Ne.symm h3.2.2.2.1)), h7.kept (hk _ (Ne.symm h3.2.2.2.2.1))⟩, Turn.setCell w (.inr (.inl rfl)) _⟩
  have := h5.set j (bv u)
  rwa [bvs_set] at this
theorem PM.lastSet (h : PM w x N S T A) (j : Nat) (u : UInt8) : PM (w.setCell ⟨x.gt, j, none⟩ (.int .u8 (u.toNat : Int))) x N S (T.set j u) A ∧ Turn x.F w (w.setCell ⟨x.gt, j, none⟩ (.int .u8 (u.toNat : Int))) := by
  obtain ⟨cs, ct, h1, h2, h3, h4, h5, h6, h7⟩ := h
  have hk : ∀ k, k ≠ x.gt → (w.setCell ⟨x.gt, j, none⟩ (.int .u8 (u.toNat : Int))).heap[k]? = w.heap[k]? := fun k hk => Below.heap_setCell _ _ _ _ hk
  refine ⟨⟨cs, ct, h1, h2, h3, h4.same (hk _ h3.2.1), h5.same (hk _ h3.2.2.2.1), ?_, h7.kept (hk _ (Ne.symm h3.2.2.2.2.2))⟩, Turn.setCell w (.inr (.inr (.inl rfl))) _⟩
  have := h6.set j (bv u)
  rwa [bvs_set] at this
theorem PM.setTo (h : PM w x N S T A) {A' : List Bool} (hs : SetIs w' x.b A') (hl : A'.length = A.length) (hg : w.grownBy w' (some x.b)) : PM w' x N S T A' ∧ Turn x.F w w' := by
  have ht : Turn x.F w w' := Turn.grown hg (fun j hj => by injection hj with hj; subst hj; exact .inr (.inr (.inr rfl)))
  have ht2 : Turn (fun k => k = x.b) w w' := Turn.grown hg (fun j hj => by injection hj with hj; subst hj; rfl)
  obtain ⟨cs, ct, h1, h2, h3, h4, h5, h6, h7⟩ := h
  exact ⟨⟨cs, ct, h1, by omega, h3, h4.turn ht2 h3.2.2.1, h5.turn ht2 h3.2.2.2.2.1, h6.turn ht2 h3.2.2.2.2.2, hs⟩, ht⟩
end

def StoreInv (w wr : World) (x : MB) (N : Nat) (S T : List UInt8) (A : List Bool) (a m : Nat) (bs : List UInt8) (t : Value) : Prop := ∃ j : Nat, t = .int .i64 (j : Int) ∧ j ≤ m ∧ PM wr x N (putL S a (bs.take j)) T (clrL A a j) ∧ Turn x.F w wr

theorem wrapA {a j M : Nat} (h : a + j < M) (h' : M ≤ 8 * 131072) : wrap64 ((a : Int) + (j : Int)) = ((a + j : Nat) : Int) := by rw [IntWalk.wrap64_in _ (by omega)]; simp

set_option maxHeartbeats 1000000 in
theorem pm_store {w : World} {x : MB} {N : Nat} {S T : List UInt8} {A : List Bool} (h : PM w x N S T A) {B : Option Addr} {m c : Nat} {bs : List UInt8} (hs : Sl w B m bs) (hB : 0 < m → ∀ p, B = some p → ¬ x.F p.block) (a : Nat) (hA : a + m ≤ 8 * N) :
    Calls Try.prog 17 #[.pointer (some ⟨x.p, 0, none⟩), .int .i64 (a : Nat), .slice B m c] w fun e w' => e = .returned (.int .i64 0) ∧ PM w' x N (putL S a bs) T (clrL A a m) ∧ Turn x.F w w' := by
  obtain ⟨hb1, hb2, hb3⟩ := h.bound
  have hw := pm_within h (a : Int) (m : Int) (by omega) (by omega)
  rw [inW_iff.2 ⟨by omega, by omega, by omega⟩] at hw
  have HW := Lib.hid hw
  have HB := Lib.hid hb3
  have HLA := Lib.hid h.lenA
  have hlen := hs.1
  have HLEN := Lib.hid hlen
  clear hw hb1 hb2 hb3 hlen
  go_enter Try.func17, Try.ntmps17
  go_wp2_with fail
  refine HW.out.mono ?_
  rintro e w1 ⟨rfl, rfl⟩
  clear HW
  go_wp2_with fail
  go_loopw [18] (fun t wr => StoreInv w wr x N S T A a m bs t) (fun t _ => m - (intOf t).toNat)
  case atStart => exact ⟨0, rfl, by omega, h, Turn.refl _ _⟩
  case round =>
    obtain ⟨j, rfl, hj, hP, ht⟩ := hrel
    by_cases hlt : j < m
    · obtain ⟨cs, ct, hcs, hct, c0, -, c2, l0⟩ := hP.view
      obtain ⟨b0, o0, rfl, hb0, cb⟩ := hs.cell hlt
      have hnb := hB (Nat.lt_of_le_of_lt (Nat.zero_le j) hlt) _ rfl
      replace cb := (ht.cell (p := ⟨b0, o0 + j, none⟩) hb0 hnb).trans cb
      obtain ⟨u, hu⟩ : ∃ u, u = bs[j]'(by rw [HLEN.out]; exact hlt) := ⟨_, rfl⟩
      rw [← hu] at cb
      obtain ⟨i, hi⟩ : ∃ i, i = a + j := ⟨_, rfl⟩
      obtain ⟨q, hq⟩ : ∃ q, q = i / 8 := ⟨_, rfl⟩
      obtain ⟨r, hr8⟩ : ∃ r, r = i % 8 := ⟨_, rfl⟩
      have haj : i < 8 * N := by omega
      have hqN : q < N := by omega
      have hr8' : r < 8 := by omega
      have hqr : i = q * 8 + r := by omega
      obtain ⟨cS, fS⟩ := hP.seenAt haj
      obtain ⟨hP1, ht1⟩ := hP.seenSet i u
      have HP := Lib.hid hP1
      have HT := Lib.hid (ht.and ht1)
      rw [hqr] at hP1
      obtain ⟨cs1, ct1, -, -, -, -, d2, -⟩ := hP1.view
      have hSet := hP1.isSet
      have HPUT := Lib.hid (putL_take (S := S) (i := a) (bs := bs) (k := j) (by rw [HLEN.out]; exact hlt))
      have HU := Lib.hid hu
      have hlc : (clrL A a j).length = N := by rw [clrL_length, HLA.out]
      have HCL := Lib.hid (show clrL A a (j + 1) = (clrL A a j).set q false by rw [clrL, hq, hi])
      have HQA := Lib.hid (show q < (clrL A a j).length by rw [hlc]; exact hqN)
      have HQM := Lib.hid (show q ≤ 1000000 by have := HB.out; omega)
      rw [hqr] at cS fS
      have HQR := Lib.hid hqr
      have HI := Lib.hid hi
      have e5 := wrapS (M := 8 * N) (show j < 8 * N by omega) (Nat.mul_le_mul_left 8 HB.out)
      have e1 := wrapA (hi ▸ haj) (Nat.mul_le_mul_left 8 HB.out)
      rw [← hi] at e1
      have e2 := tdiv8 hq
      have e3 := tmod8 hr8
      have e4 := wrapN hqN HB.out
      clear hP hP1 ht ht1 hu hq hr8 hqr hlc haj hi
      go_wp2_with (at_delete; refine wpList_setDel rfl (.tmp 42) (.tmp 43) rfl rfl hSet q HQA.out HQM.out (congrArg (Value.int .i64) e4) ?_; intro w2 hS2 hg2 hz2)
      have X : StoreInv w w2 x N S T A a m bs (.int .i64 ((j : Int) + 1)) := by
        have hP1 := HP.out
        rw [HI.out] at hP1
        have hh := hP1.setTo (w' := w2) (A' := clrL A a (j + 1)) (by rw [HCL.out]; exact hS2) (by rw [clrL_length, clrL_length]) (by rw [← HI.out, HQR.out]; exact hg2)
        refine ⟨j + 1, by simp, hlt, ?_, ?_⟩
        · rw [HPUT.out, ← HU.out]; exact hh.1
        · have := HT.out; rw [HI.out] at this; exact this.and hh.2
      go_roundw
      case rel => (try rw [e5]); first | exact X | ((repeat apply Exists.intro); exact X) | ((repeat apply Exists.intro); refine ⟨X, ?_⟩; rfl)
      case measure => first | exact meas hlt | exact measW hlt e5
    · obtain rfl : j = m := by omega
      have hbs : bs.take j = bs := List.take_of_length_le (by rw [HLEN.out]; omega)
      rw [hbs] at hP
      clear hs hB
      go_wp2_with fail
      go_ret
      exact ⟨rfl, hP, ht⟩
end Go.Proofs.Ytlinlmimakealaa

namespace Go.Proofs.Ytlinlmimakealaa
open Go.RowKit

theorem pm_store_no {w : World} {x : MB} {N : Nat} {S T : List UInt8} {A : List Bool} (h : PM w x N S T A) (B : Option Addr) (m c : Nat) (hm : m ≤ 1073741824) (at_ : Int) (hin : inW (8 * N) at_ m = false) :
    Calls Try.prog 17 #[.pointer (some ⟨x.p, 0, none⟩), .int .i64 at_, .slice B m c] w fun e w' => e = .returned (.int .i64 1) ∧ w = w' := by
  have hw := pm_within h at_ (m : Int) (by omega) (by omega)
  rw [hin] at hw
  have HW := Lib.hid hw
  clear hw hin h hm
  go_enter Try.func17, Try.ntmps17
  go_wp2_with fail
  refine HW.out.mono ?_
  rintro e w1 ⟨rfl, rfl⟩
  go_wp2_with fail
  go_ret
  exact ⟨rfl, rfl⟩

set_option maxHeartbeats 2000000 in
theorem pm_keep {w : World} {x : MB} {N : Nat} {S T : List UInt8} {A : List Bool} (h : PM w x N S T A) (k : Nat) (hk : k < N) :
    Calls Try.prog 41 #[.pointer (some ⟨x.p, 0, none⟩), .int .i64 (k : Nat)] w fun e w' => e = .returned (.tuple #[]) ∧ PM w' x N S (keepN S T (8 * k) 8) (A.set k false) ∧ Turn x.F w w' := by
  obtain ⟨cs, ct, hcs, hct, c0, c1, c2, l0⟩ := h.view
  have H := Lib.hid h
  have hb := h.bound
  have HB := Lib.hid hb.2.2
  obtain ⟨s0, -⟩ := h.seenAt (j := k * 8) (by omega)
  obtain ⟨s1, -⟩ := h.seenAt (j := k * 8 + 1) (by omega)
  obtain ⟨s2, -⟩ := h.seenAt (j := k * 8 + 2) (by omega)
  obtain ⟨s3, -⟩ := h.seenAt (j := k * 8 + 3) (by omega)
  obtain ⟨s4, -⟩ := h.seenAt (j := k * 8 + 4) (by omega)
  obtain ⟨s5, -⟩ := h.seenAt (j := k * 8 + 5) (by omega)
  obtain ⟨s6, -⟩ := h.seenAt (j := k * 8 + 6) (by omega)
  obtain ⟨s7, -⟩ := h.seenAt (j := k * 8 + 7) (by omega)
  obtain ⟨t0, f0⟩ := h.lastAt (j := k * 8) (by omega)
  obtain ⟨t1, f1⟩ := h.lastAt (j := k * 8 + 1) (by omega)
  obtain ⟨t2, f2⟩ := h.lastAt (j := k * 8 + 2) (by omega)
  obtain ⟨t3, f3⟩ := h.lastAt (j := k * 8 + 3) (by omega)
  obtain ⟨t4, f4⟩ := h.lastAt (j := k * 8 + 4) (by omega)
  obtain ⟨t5, f5⟩ := h.lastAt (j := k * 8 + 5) (by omega)
  obtain ⟨t6, f6⟩ := h.lastAt (j := k * 8 + 6) (by omega)
  obtain ⟨t7, f7⟩ := h.lastAt (j := k * 8 + 7) (by omega)
  clear h hb
  go_enter Try.func41, Try.ntmps41
  go_upto_region 0 with (fail)
  go_cut [] (fun wx => PM wx x N S (keepN S T (8 * k) 8) A ∧ Turn x.F w wx)
  case first =>
    go_region
    go_wp2_with fail
    go_meet
    have e : keepN S T (8 * k) 8 = (((((((T.set (k * 8) (S.getD (k * 8) 0)).set (k * 8 + 1) (S.getD (k * 8 + 1) 0)).set (k * 8 + 2) (S.getD (k * 8 + 2) 0)).set (k * 8 + 3) (S.getD (k * 8 + 3) 0)).set (k * 8 + 4) (S.getD (k * 8 + 4) 0)).set (k * 8 + 5) (S.getD (k * 8 + 5) 0)).set (k * 8 + 6) (S.getD (k * 8 + 6) 0)).set (k * 8 + 7) (S.getD (k * 8 + 7) 0) := by
      rw [Nat.mul_comm 8 k]; rfl
    rw [e]
    have h0 := H.out.lastSet (k * 8) (S.getD (k * 8) 0)
    have h1 := h0.1.lastSet (k * 8 + 1) (S.getD (k * 8 + 1) 0)
    have h2 := h1.1.lastSet (k * 8 + 2) (S.getD (k * 8 + 2) 0)
    have h3 := h2.1.lastSet (k * 8 + 3) (S.getD (k * 8 + 3) 0)
    have h4 := h3.1.lastSet (k * 8 + 4) (S.getD (k * 8 + 4) 0)
    have h5 := h4.1.lastSet (k * 8 + 5) (S.getD (k * 8 + 5) 0)
    have h6 := h5.1.lastSet (k * 8 + 6) (S.getD (k * 8 + 6) 0)
    have h7 := h6.1.lastSet (k * 8 + 7) (S.getD (k * 8 + 7) 0)
    exact ⟨h7.1.keep ((Grow.refl _).drew), (((((((h0.2.and h1.2).and h2.2).and h3.2).and h4.2).and h5.2).and h6.2).and h7.2).andGrow ((Grow.refl _).drew)⟩
  case rest =>
    obtain ⟨h1, r1⟩ := hcut
    clear c0 c1 c2 l0 s0 s1 s2 s3 s4 s5 s6 s7 t0 t1 t2 t3 t4 t5 t6 t7 f0 f1 f2 f3 f4 f5 f6 f7
    obtain ⟨cs', ct', -, -, -, -, d2, l1⟩ := h1.view
    have hSet := h1.isSet
    have H1 := Lib.hid h1
    have HL := Lib.hid h1.lenA
    have HK := Lib.hid (show k < A.length by rw [h1.lenA]; exact hk)
    have HM := Lib.hid (show k ≤ 1000000 by have := HB.out; omega)
    clear h1
    go_wp2_with (at_delete; refine wpList_setDel rfl (.tmp 20) (.tmp 21) rfl rfl hSet k HK.out HM.out rfl ?_; intro w2 hS2 hg2 hz2)
    have h2 := H1.out.setTo hS2 (by rw [List.length_set]) hg2
    go_end0
    exact ⟨rfl, h2.1, r1.and h2.2⟩
end Go.Proofs.Ytlinlmimakealaa

namespace Go.Proofs.Ytlinlmimakealaa
open Go.RowKit

def ics (L : List Int) : List Value := L.map (fun n => .int .i64 n)
theorem ics_append (a b : List Int) : ics (a ++ b) = ics a ++ ics b := by simp [ics]
theorem ics_length (a : List Int) : (ics a).length = a.length * 1 := by simp [ics]
theorem ics_one (a : List Int) : ∀ u ∈ ics a, u.oneCell' = true := by
  intro u hu
  obtain ⟨r, -, rfl⟩ := List.mem_map.1 hu
  rfl
/-- A row of ints of the call's own. -/
def OI (w : World) (base : Nat) (v : Value) (L : List Int) : Prop := w.ownsRow base 3 1 v L.length (ics L)
theorem OI.nil (w : World) (base : Nat) : OI w base (.slice none 0 0) [] := World.ownsRow_nil _ _ _ _
theorem OI.alloc {w : World} {base : Nat} {v : Value} {L : List Int} (h : OI w base v L) (o : Obj) : OI (w.alloc o) base v L := World.ownsRow.alloc h o
theorem int_info : (Try.prog.info? 3).map (fun i => (i.zero, i.size, i.bytes)) = some (some (.int .i64 0), 1, 8) := by kernel_rfl
theorem wpList_appI {w : World} {ops : Array Oper} {rest : List Oper} {o : Oper} {a : Act} {Q : Exit → Act → World → Prop} (hgd : o.guard = none) (s x : Operand)
    (ho : o.op = .call { callee := .builtin .append, args := #[s, x], argTypes := #[41, 41] })
    (base : Nat) (v : Value) (L : List Int) (hs : a.eval s = v) (hown : OI w base v L)
    (B : Nat) (A : Option Addr) (c : Nat) (news : List Int) (m : Nat) (hm : m = news.length) (hx : a.eval x = .slice A m c) (hr : Rd w B A 1 news.length (ics news))
    (h63 : L.length + news.length ≤ 1000000) (hbase : base ≤ w.heap.size)
    (h : ∀ v' w', OI w' base v' (L ++ news) → Below base w w' → w.grownBy w' v.ownBlock → (v'.ownBlock = v.ownBlock ∨ v'.ownBlock = some w.heap.size) → wpList Try.prog ops Q rest (a.put o.dst v') w') : wpList Try.prog ops Q (o :: rest) a w := by
  subst hm
  obtain ⟨i0, hi, hz, h1, h2⟩ := info_parts int_info
  refine wpList_app hgd s x _ ho base 3 i0 _ 1 8 Try.underlying41 hi hz h1 h2 rfl (by omega) v L.length (ics L) hs hown B A news.length c (ics news) hx hr (ics_one news) (by unfold maxLen; omega) (by omega) hbase ?_
  intro v' w' h3 h4 h5
  exact h v' w' (by unfold OI; rw [List.length_append, ics_append]; exact h3) ((Below.refl _ _).grown h4 hbase (fun k hk => (hown.lt k hk).1)) h4 h5

theorem Rd.litV (w : World) (t : TypeId) (vs : List Value) (size n : Nat) (hn : vs.length = n * size) : Rd (w.alloc (.cells vs.toArray t)) (w.heap.size + 1) (some ⟨w.heap.size, 0, none⟩) size n vs := by
  refine ⟨hn, fun _ => ⟨_, _, rfl, by omega, fun j u hu => ?_⟩⟩
  rw [cell_of_row _ _ (0 + j) vs.toArray t (0, 0) (heap_alloc_new w _)]
  simpa using hu
theorem Grow.grown {w w' : World} (g : Grow w w') : w.grownBy w' none := ⟨g.os, g.tape, g.output, g.size, fun k hk _ => g.block k hk⟩
theorem own_none (v : Value) : v.ownBlock = none ∨ v.ownBlock ≠ none := by cases v.ownBlock <;> simp
theorem wpList_appIone {w : World} {ops : Array Oper} {rest : List Oper} {o : Oper} {a : Act} {Q : Exit → Act → World → Prop} (hgd : o.guard = none) (s x : Operand)
    (ho : o.op = .call { callee := .builtin .append, args := #[s, x], argTypes := #[41, 41] })
    (base : Nat) (u : Value) (K : List Int) (hs : a.eval s = u) (r : Int) (hx : a.eval x = .slice (some ⟨w.heap.size, 0, none⟩) 1 1) (hown : OI w base u K)
    (h63 : K.length + 1 ≤ 1000000) (hbase : base ≤ w.heap.size)
    (h : ∀ u' w', OI w' base u' (K ++ [r]) → Below base w w' → wpList Try.prog ops Q rest (a.put o.dst u') w') : wpList Try.prog ops Q (o :: rest) a (w.alloc (.cells #[.int .i64 r] 3)) := by
  refine wpList_appI hgd s x ho base u K hs (hown.alloc _) (w.heap.size + 1) (some ⟨w.heap.size, 0, none⟩) 1 [r] 1 rfl hx (Rd.litV w _ (ics [r]) 1 1 rfl) h63 (by simp; omega) ?_
  intro u' w' q1 q2 q3 q4
  exact h u' w' q1 (((Below.refl _ _).alloc hbase _).trans q2)
def RI (w : World) (A : Option Addr) (n : Nat) (K : List Int) : Prop := K.length = n ∧ Rd w w.heap.size A 1 n (ics K)
theorem RI.keep {w w' : World} {A : Option Addr} {n : Nat} {L : List Int} (h : RI w A n L) (g : Grow w w') : RI w' A n L := ⟨h.1, (Rd.below h.2 g).more g.size⟩
theorem OI.ri {w : World} {base : Nat} {v : Value} {L : List Int} (h : OI w base v L) : ∃ A c, v = .slice A L.length c ∧ L.length ≤ c ∧ RI w A L.length L := by
  obtain ⟨A, c, rfl, h1, -, -, -⟩ := own_form h
  exact ⟨A, c, rfl, h1, rfl, Rd.of_own h⟩
theorem RI.at_ {w : World} {A : Option Addr} {n : Nat} {K : List Int} (h : RI w A n K) {i : Nat} (hi : i < n) : ∃ b o r, K[i]? = some r ∧ A = some ⟨b, o, none⟩ ∧ b < w.heap.size ∧ w.cell? ⟨b, o + i, none⟩ = some (.int .i64 r) := by
  obtain ⟨hn, hl, hr⟩ := h
  obtain ⟨b, o, rfl, hb, hc⟩ := hr (by omega)
  have hi' : i < K.length := by omega
  refine ⟨b, o, K[i], by simp [hi'], rfl, hb, hc i _ (by simp [ics, hi'])⟩

end Go.Proofs.Ytlinlmimakealaa
