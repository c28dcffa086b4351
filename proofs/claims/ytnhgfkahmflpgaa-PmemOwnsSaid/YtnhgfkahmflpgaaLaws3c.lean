/- The walk of the statement PmemLasts. -/
import Derived.Test.YtnhgfkahmflpgaaLaws3b
namespace Go.Proofs.Ytnhgfkahmflpgaa
open Go.RowKit

theorem part_get (L : List UInt8) (a m j : Nat) (hj : j < m) : ((L.drop a).take m).getD j 0 = L.getD (a + j) 0 := by
  simp [List.getD_eq_getElem?_getD, hj]
theorem not_dirty {S T : List UInt8} {k : Nat} (h : dirtyB S T k = false) (j : Nat) (hj : j / 8 = k) : S.getD j 0 = T.getD j 0 := by
  unfold dirtyB at h
  rw [List.any_eq_false] at h
  have := h (j - 8 * k) (by simp; omega)
  rw [show 8 * k + (j - 8 * k) = j by omega] at this
  simpa using this
theorem lasts_eq {N : Nat} {S T : List UInt8} {A : List Bool} {a n : Int} (hS : S.length = 8 * N) (hT : T.length = 8 * N) (hA : A.length = N) (B : Nat → Bool) :
    loadL N (mixL S (mixL S T fun k => (flushU N S T A a n).getD k false) B) a n = loadL N S a n := by
  unfold loadL flushU
  cases hin : inW (8 * N) a n with
  | false => rfl
  | true =>
    obtain ⟨h1, h2, h3⟩ := inW_iff.1 hin
    simp only [if_true]
    refine ext_getD (by simp [mixL_length, hS, hT]) fun j hj => ?_
    have hjm : j < n.toNat := by
      rw [List.length_take] at hj
      omega
    rw [part_get _ _ _ _ hjm, part_get _ _ _ _ hjm]
    have hi : a.toNat + j < 8 * N := by omega
    rw [mixL_get _ _ _ _ (by rw [mixL_length, hT]; exact hi), mixL_get _ _ _ _ (by rw [hT]; exact hi)]
    by_cases hB : B ((a.toNat + j) / 8) = true
    · rw [if_pos hB]
    · rw [if_neg hB]
      cases hf : (flushA S T A (lineB a.toNat n.toNat)).getD ((a.toNat + j) / 8) false with
      | true => rw [if_pos rfl]
      | false =>
        rw [if_neg (by decide)]
        rw [flushA_get _ _ _ _ _ (by rw [hA]; omega)] at hf
        have hl : lineB a.toNat n.toNat ((a.toNat + j) / 8) = true := by unfold lineB; exact decide_eq_true (by omega)
        rw [hl, Bool.true_and, Bool.or_eq_false_iff] at hf
        exact (not_dirty hf.2 _ rfl).symm

set_option maxHeartbeats 8000000 in
set_option maxRecDepth 8000 in
theorem law_PmemLasts (A0 : Option Addr) (n0 c0 : Nat) (L : List Dd) (a n : Int) (Q : Option Addr) (q d : Nat) (pk : List Int) (W : World) (hr : RD W A0 n0 L) (hn : -9223372036854775808 ≤ n) (hn' : n ≤ 9223372036854775807) (hri : RI W Q q pk) (hqd : q ≤ d) :
    Calls Try.prog 4 #[.slice A0 n0 c0, .int .i64 a, .int .i64 n, .slice Q q d] W fun e w' => e = .returned (.bool true) ∧ Below W.heap.size W w' := by
  have HR := Lib.hid hr
  have HRI := Lib.hid hri
  clear hr hri
  go_enter Try.func4, Try.ntmps4
  go_wp2_with fail
  refine (pm_new_yes 32 (by decide) W).mono ?_
  rintro e w1 ⟨x, rfl, hP, hx, g1⟩
  have HP1 := Lib.hid hP
  have HX1 := Lib.hid hx
  have HG1 := Lib.hid g1
  clear hP hx g1
  go_wp2_with fail
  refine (rm_new_yes 32 (by decide) w1).mono ?_
  rintro e w2 ⟨y, rfl, hR, hy, g2⟩
  have HBO := Lib.hid (both_new HP1.out HX1.out HG1.out hR hy g2)
  clear hR hy g2
  go_upto_block 0 with fail
  go_cut [11] (fun i wx => (∃ k : Int, i = .int .i64 k) ∧ Both W wx x.p y 32)
  case first =>
    go_wp2_with fail
    go_loopw [11] (fun t wr => PlayInv W wr x.p y 32 n0 30 t) (fun t _ => 30 - (intOf t).toNat)
    case atStart => exact ⟨0, rfl, Nat.zero_le _, Nat.zero_le _, HBO.out⟩
    case round =>
      obtain ⟨i, rfl, hi, hi2, hbo⟩ := hrel
      have HB := Lib.hid hbo
      have HG := Lib.hid (show Grow W wr by obtain ⟨_, _, _, _, _, _, g⟩ := hbo; exact g)
      clear hbo
      by_cases hlt : i < n0
      · by_cases hlt2 : i < 30
        · obtain ⟨b, o, e0, rfl, hb, hok, k0, k1, k2, k3, k4⟩ := HR.out.at_ hlt
          replace k0 := HG.out.cell k0; replace k1 := HG.out.cell k1; replace k2 := HG.out.cell k2; replace k3 := HG.out.cell k3; replace k4 := HG.out.cell k4
          have HOK := Lib.hid hok
          clear hok
          go_wp2_with fail
          refine (deed_step HB.out HOK.out).mono ?_
          rintro r w3 ⟨rfl, hb3⟩
          have X : PlayInv W w3 x.p y 32 n0 30 (.int .i64 ((i : Int) + 1)) := ⟨i + 1, by simp, hlt, hlt2, hb3⟩
          clear k0 k1 k2 k3 k4 hb3
          go_wp2_with fail
          go_roundw
          case rel => first | exact X | ((repeat apply Exists.intro); exact X) | ((repeat apply Exists.intro); refine ⟨X, ?_⟩; rfl)
          case measure => first | exact meas hlt2 | (simp [intOf]; omega)
        · go_wp2_with fail
          go_meet
          exact ⟨⟨_, rfl⟩, HB.out⟩
      · go_wp2_with fail
        go_meet
        exact ⟨⟨_, rfl⟩, HB.out⟩
  case rest =>
    obtain ⟨⟨k, rfl⟩, x', S, T, A, hp, ⟨hP, -, -, hx', -⟩, G⟩ := hcut
    have HLS := Lib.hid hP.lenS
    have HLT := Lib.hid hP.lenT
    have HLA := Lib.hid hP.lenA
    have HP := Lib.hid hP
    have HX := Lib.hid hx'
    rw [← hp]
    clear hP hx' HP1 HX1 HG1 HBO hp
    go_wp2_with fail
    refine (pm_flushU HP.out a n hn hn').mono ?_
    rintro e w3 ⟨rfl, hP3, t3⟩
    replace G := G.low (t3.low HX.out G.size)
    clear t3
    go_wp2_with fail
    refine (pm_fence hP3).mono ?_
    rintro e w4 ⟨rfl, hP4, t4⟩
    replace G := G.low (t4.low HX.out G.size)
    clear hP3 t4
    go_wp2_with fail
    refine (pm_loadU hP4 a n hn hn').mono ?_
    rintro e w5 ⟨A5, c5, rfl, o5, g5⟩
    have s5 := o5.sl
    have hf5 : 0 < loadM 32 a n → ∀ p, A5 = some p → ¬ x'.F p.block := by
      intro h0 p hp q
      obtain ⟨g, hA, hg, -⟩ := o5.row h0
      rw [hA] at hp
      injection hp with hp
      subst hp
      exact absurd (hP4.lt _ q) (Nat.not_lt.2 hg)
    have HP5 := Lib.hid (hP4.keep g5)
    have HF5 := Lib.hid hf5
    have HS5 := Lib.hid s5
    replace G := G.trans g5
    clear hP4 o5 g5 hf5 s5
    go_upto_if 54 with fail
    go_cut [3] (fun s wx => s = .slice Q (min q 200) d ∧ wx = w5)
    case first =>
      by_cases hq : 200 < q
      · have z1 : decide (200 < q) = true := decide_eq_true hq
        have z2 : decide ((200 : Int) < (q : Int)) = true := decide_eq_true (by omega)
        have hmin : min q 200 = 200 := Nat.min_eq_right (by omega)
        have hd2 : 200 ≤ d := by omega
        have HMIN := Lib.hid hmin
        clear hmin
        go_wp2_with fail
        go_meet
        exact ⟨by rw [HMIN.out], rfl⟩
      · have z1 : decide (200 < q) = false := decide_eq_false hq
        have z2 : decide ((200 : Int) < (q : Int)) = false := decide_eq_false (by omega)
        have hmin : min q 200 = q := Nat.min_eq_left (by omega)
        have HMIN := Lib.hid hmin
        clear hmin
        go_wp2_with fail
        go_meet
        exact ⟨by rw [HMIN.out], rfl⟩
    case rest =>
      obtain ⟨rfl, hw⟩ := hcut
      have hw' := hw.symm
      subst hw'
      have hri2 : RI w5 Q (min q 200) (pk.take (min q 200)) := by
        obtain ⟨h1, h2⟩ := HRI.out.keep G
        refine ⟨by simp; omega, ?_⟩
        have := Rd.take h2 (k := min q 200) (by omega)
        simpa [ics, List.map_take] using this
      have hQ : 0 < min q 200 → ∀ p, Q = some p → ¬ x'.F p.block := by
        intro h0 p hp k
        obtain ⟨b, o, e, hb, -⟩ := HRI.out.2.2 (by omega)
        rw [e] at hp
        injection hp with hp
        subst hp
        exact absurd (HX.out _ k) (Nat.not_le.2 hb)
      have HRI2 := Lib.hid hri2
      have HQ := Lib.hid hQ
      clear hri2 hQ
      go_wp2_with fail
      refine (pm_crash HP5.out HRI2.out HQ.out).mono ?_
      rintro e w6 ⟨rfl, g6, hg6, hP6, t6⟩
      have s6 := HS5.out.turn t6 HF5.out
      replace G := G.low (t6.low HX.out G.size)
      have HP6 := Lib.hid hP6
      have HS6 := Lib.hid s6
      clear hP6 t6 s6 hg6
      go_wp2_with fail
      refine (pm_loadU HP6.out a n hn hn').mono ?_
      rintro e w7 ⟨A7, c7, rfl, o7, g7⟩
      have s7 := o7.sl
      rw [lasts_eq HLS.out HLT.out HLA.out] at s7
      have s6 := HS6.out.keep g7
      replace G := G.trans g7
      clear o7 g7
      go_wp2_with fail
      refine (same_yes s6 s7 rfl).mono ?_
      rintro e w8 ⟨rfl, n8, hw8⟩
      replace G : Grow W w8 := by rw [hw8]; exact G.drewN n8
      clear s6 s7 hw8
      go_wp2_with fail
      refine (lives3 _).mono ?_
      rintro e w9 ⟨rfl, g9⟩
      go_wp2_with fail
      go_ret
      exact ⟨rfl, G.trans g9⟩
end Go.Proofs.Ytnhgfkahmflpgaa
