/- The walk of the statement PmemElse. -/
import Derived.Test.YtnhgfkahmflpgaaLaws3c
namespace Go.Proofs.Ytnhgfkahmflpgaa
open Go.RowKit

theorem Own.turnB {F : Nat → Prop} {w w' : World} {base g n c : Nat} {bs : List UInt8} (h : Own w base (some ⟨g, 0, none⟩) n c bs) (hb : base ≤ g) (t : Turn F w w') (hg : ¬ F g) : Own w' base (some ⟨g, 0, none⟩) n c bs := by
  obtain ⟨h1, h2, h3⟩ := h
  subst h1
  exact ⟨rfl, h2, ((CR.of_row h3).turn t hg).row hb⟩
theorem Own.setBt {w : World} {base g n c : Nat} {bs : List UInt8} (h : Own w base (some ⟨g, 0, none⟩) n c bs) (j : Nat) (u : UInt8) : Own (w.setCell ⟨g, j, none⟩ (.int .u8 (u.toNat : Int))) base (some ⟨g, 0, none⟩) n c (bs.set j u) := by
  have := OB.stored h.1.symm h.2.2 j u
  exact ⟨by rw [List.length_set]; exact h.1, h.2.1, this.1⟩

def ElseInv (w wr : World) (base g c a m : Nat) (S bs : List UInt8) (t : Value) : Prop := ∃ j : Nat, t = .int .i64 (j : Int) ∧ j ≤ m ∧ Own wr base (some ⟨g, 0, none⟩) 256 c (putL S a (bs.take j)) ∧ Turn (fun i => i = g) w wr

set_option maxHeartbeats 8000000 in
set_option maxRecDepth 8000 in
theorem law_PmemElse (A0 : Option Addr) (n0 c0 : Nat) (L : List Dd) (a : Int) (B : Option Addr) (m d : Nat) (bs : List UInt8) (W : World) (hr : RD W A0 n0 L) (hrb : RB W W.heap.size B bs) (hm : bs.length = m) (hmd : m ≤ d) :
    Calls Try.prog 7 #[.slice A0 n0 c0, .int .i64 a, .slice B m d] W fun e w' => e = .returned (.bool true) ∧ Below W.heap.size W w' := by
  have HR := Lib.hid hr
  have HRB := Lib.hid hrb
  have HM := Lib.hid hm
  have HMD := Lib.hid hmd
  clear hr hrb hm hmd
  go_enter Try.func7, Try.ntmps7
  go_wp2_with fail
  refine (pm_new_yes 32 (by decide) W).mono ?_
  rintro e w1 ⟨x, rfl, hP, hx, g1⟩
  have HP1 := Lib.hid hP
  have HX1 := Lib.hid hx
  have HG1 := Lib.hid g1
  clear hP hx g1
  go_wp2_with fail
  refine (rm_new_yes 32 (by decide) w1).mono ?_
  rintro e w2 ⟨y, rfl, hR, hy, g2⟩
  have HBO := Lib.hid (both_new HP1.out HX1.out HG1.out hR hy g2)
  clear hR hy g2
  go_upto_block 0 with fail
  go_cut [9] (fun i wx => (∃ k : Int, i = .int .i64 k) ∧ Both W wx x.p y 32)
  case first =>
    go_wp2_with fail
    go_loopw [9] (fun t wr => PlayInv W wr x.p y 32 n0 30 t) (fun t _ => 30 - (intOf t).toNat)
    case atStart => exact ⟨0, rfl, Nat.zero_le _, Nat.zero_le _, HBO.out⟩
    case round =>
      obtain ⟨i, rfl, hi, hi2, hbo⟩ := hrel
      have HB := Lib.hid hbo
      have HG := Lib.hid (show Grow W wr by obtain ⟨_, _, _, _, _, _, g⟩ := hbo; exact g)
      clear hbo
      by_cases hlt : i < n0
      · by_cases hlt2 : i < 30
        · obtain ⟨b, o, e0, rfl, hb, hok, k0, k1, k2, k3, k4⟩ := HR.out.at_ hlt
          replace k0 := HG.out.cell k0; replace k1 := HG.out.cell k1; replace k2 := HG.out.cell k2; replace k3 := HG.out.cell k3; replace k4 := HG.out.cell k4
          have HOK := Lib.hid hok
          clear hok
          go_wp2_with fail
          refine (deed_step HB.out HOK.out).mono ?_
          rintro r w3 ⟨rfl, hb3⟩
          have X : PlayInv W w3 x.p y 32 n0 30 (.int .i64 ((i : Int) + 1)) := ⟨i + 1, by simp, hlt, hlt2, hb3⟩
          clear k0 k1 k2 k3 k4 hb3
          go_wp2_with fail
          go_roundw
          case rel => first | exact X | ((repeat apply Exists.intro); exact X) | ((repeat apply Exists.intro); refine ⟨X, ?_⟩; rfl)
          case measure => first | exact meas hlt2 | (simp [intOf]; omega)
        · go_wp2_with fail
          go_meet
          exact ⟨⟨_, rfl⟩, HB.out⟩
      · go_wp2_with fail
        go_meet
        exact ⟨⟨_, rfl⟩, HB.out⟩
  case rest =>
    obtain ⟨⟨k, rfl⟩, x', S, T, A, hp, ⟨hP, -, -, hx', -⟩, G⟩ := hcut
    have HLS := Lib.hid hP.lenS
    have HLT := Lib.hid hP.lenT
    have HP := Lib.hid hP
    have HX := Lib.hid hx'
    rw [← hp]
    clear hP hx' HP1 HX1 HG1 HBO hp
    go_upto_if 45 with fail
    go_cut [2] (fun s wx => s = .slice B (min m 100) d ∧ wx = wc)
    case first =>
      have hmd := HMD.out
      by_cases hq : 100 < m
      · have z1 : decide (100 < m) = true := decide_eq_true hq
        have z2 : decide ((100 : Int) < (m : Int)) = true := decide_eq_true (by omega)
        have HMIN := Lib.hid (show min m 100 = 100 from Nat.min_eq_right (by omega))
        have hd2 : 100 ≤ d := by omega
        go_wp2_with fail
        go_meet
        exact ⟨by rw [HMIN.out], rfl⟩
      · have z1 : decide (100 < m) = false := decide_eq_false hq
        have z2 : decide ((100 : Int) < (m : Int)) = false := decide_eq_false (by omega)
        have HMIN := Lib.hid (show min m 100 = m from Nat.min_eq_left (by omega))
        go_wp2_with fail
        go_meet
        exact ⟨by rw [HMIN.out], rfl⟩
    case rest =>
      obtain ⟨rfl, hw⟩ := hcut
      rename_i w9
      obtain ⟨m', hm'⟩ : ∃ m', m' = min m 100 := ⟨_, rfl⟩
      rw [← hm']
      have hw' := hw.symm
      subst hw'
      have HSL := Lib.hid (show Sl W B m' (bs.take m') from ⟨by have := HM.out; simp; omega, by omega, HRB.out.take (by have := HM.out; omega)⟩)
      have HM1 := Lib.hid (show m' ≤ 100 by omega)
      have HBF := Lib.hid (show 0 < m' → ∀ p, B = some p → p.block < W.heap.size from fun h0 p hp => by
        obtain ⟨b, o, e, hb, -⟩ := HRB.out.2 (by rw [HM.out]; omega)
        rw [e] at hp
        injection hp with hp
        subst hp
        exact hb)
      clear hm' hw
      go_wp2_with fail
      refine (pm_load HP.out 0 256 (by decide)).mono ?_
      rintro e w3 ⟨A3, c3, rfl, o3, g3⟩
      rw [List.drop_zero, List.take_of_length_le (by rw [HLS.out]; decide)] at o3
      obtain ⟨g, rfl, hg1, hg2⟩ := o3.row (by decide)
      have HGX := Lib.hid (show ¬ x'.F g from fun q => absurd (HP.out.lt _ q) (Nat.not_lt.2 hg1))
      have HGW := Lib.hid (show W.heap.size ≤ g from Nat.le_trans G.size hg1)
      have HO3 := Lib.hid o3
      have HG3 := Lib.hid g3
      have HBG := Lib.hid hg1
      clear o3 g3 hg1 hg2
      go_wp2_with fail
      refine (pm_lasts (HP.out.keep HG3.out) 0 256 (by decide)).mono ?_
      rintro e w4 ⟨A4, c4, rfl, o4, g4⟩
      rw [List.drop_zero, List.take_of_length_le (by rw [HLT.out]; decide)] at o4
      have s4 := o4.sl
      have HF4 := Lib.hid (show 0 < 256 → ∀ p, A4 = some p → ¬ x'.F p.block ∧ p.block ≠ g by
        intro h0 p hp
        obtain ⟨b, hA, hb, -⟩ := o4.row h0
        rw [hA] at hp
        injection hp with hp
        subst hp
        exact ⟨fun q => absurd (HP.out.lt _ q) (Nat.not_lt.2 (Nat.le_trans HG3.out.size hb)), fun q => by
          have h1 := HO3.out.row (by decide)
          obtain ⟨g', hg', -, hlt⟩ := h1
          injection hg' with hg'
          injection hg' with hg'
          subst hg'
          dsimp only at q
          omega⟩)
      have HS4 := Lib.hid s4
      have HG4 := Lib.hid g4
      have HO4 := Lib.hid (HO3.out.turnB HBG.out (Turn.grow g4 (fun _ => False)) (fun q => q))
      have HSL4 := Lib.hid (((HSL.out.keep G).keep HG3.out).keep g4)
      clear s4 o4 g4 HO3
      go_wp2_with fail
      refine (pm_storeU ((HP.out.keep HG3.out).keep HG4.out) HSL4.out (fun h0 p hp q => absurd (HX.out _ q) (Nat.not_le.2 (HBF.out h0 p hp))) a).mono ?_
      rintro e w5 ⟨rfl, hP5, t5⟩
      have HO5 := Lib.hid (HO4.out.turnB HBG.out t5 HGX.out)
      have HS5 := Lib.hid (HS4.out.turn t5 (fun h0 p hp => (HF4.out h0 p hp).1))
      have HSL5 := Lib.hid (HSL4.out.turn t5 (fun h0 p hp q => absurd (HX.out _ q) (Nat.not_le.2 (HBF.out h0 p hp))))
      have HP5 := Lib.hid hP5
      replace G := ((G.trans HG3.out).trans HG4.out).low (t5.low HX.out (((G.trans HG3.out).trans HG4.out).size))
      clear hP5 t5 HO4 HS4 HSL4 HG3 HG4
      go_wp2_with fail
      refine (pm_load HP5.out 0 256 (by decide)).mono ?_
      rintro e w6 ⟨A6, c6, rfl, o6, g6⟩
      rw [List.drop_zero, List.take_of_length_le (by rw [HP5.out.lenS]; decide)] at o6
      have s6 := o6.sl
      have HF6 := Lib.hid (show 0 < 256 → ∀ p, A6 = some p → p.block ≠ g by
        intro h0 p hp
        obtain ⟨b, hA, hb, -⟩ := o6.row h0
        rw [hA] at hp
        injection hp with hp
        subst hp
        intro q
        obtain ⟨g', hg', -, hlt⟩ := HO5.out.row (by decide)
        injection hg' with hg'
        injection hg' with hg'
        subst hg'
        dsimp only at q
        omega)
      have HS6 := Lib.hid s6
      have HO6 := Lib.hid (HO5.out.turnB HBG.out (Turn.grow g6 (fun _ => False)) (fun q => q))
      have HT6 := Lib.hid (HS5.out.keep g6)
      have HSL6 := Lib.hid (HSL5.out.keep g6)
      have HP6 := Lib.hid (HP5.out.keep g6)
      replace G := G.trans g6
      clear s6 o6 g6 HO5 HS5 HSL5 HP5
      go_wp2_with fail
      refine (pm_lasts HP6.out 0 256 (by decide)).mono ?_
      rintro e w7 ⟨A7, c7, rfl, o7, g7⟩
      rw [List.drop_zero, List.take_of_length_le (by rw [HLT.out]; decide)] at o7
      have s7 := o7.sl
      have HF7 := Lib.hid (show 0 < 256 → ∀ p, A7 = some p → p.block ≠ g by
        intro h0 p hp
        obtain ⟨b, hA, hb, -⟩ := o7.row h0
        rw [hA] at hp
        injection hp with hp
        subst hp
        intro q
        obtain ⟨g', hg', -, hlt⟩ := HO6.out.row (by decide)
        injection hg' with hg'
        injection hg' with hg'
        subst hg'
        dsimp only at q
        omega)
      have HS7 := Lib.hid s7
      have HO7 := Lib.hid (HO6.out.turnB HBG.out (Turn.grow g7 (fun _ => False)) (fun q => q))
      have HN7 := Lib.hid (HS6.out.keep g7)
      have HT7 := Lib.hid (HT6.out.keep g7)
      have HSL7 := Lib.hid (HSL6.out.keep g7)
      replace G := G.trans g7
      clear s7 o7 g7 HO6 HS6 HT6 HSL6 HP6
      have hlm : (bs.take m').length = m' := HSL7.out.1
      cases hin : inW (8 * 32) a m' with
      | false =>
        have HE := Lib.hid (show storeS 32 S a (bs.take m') = S by unfold storeS; rw [hlm, hin]; rfl)
        clear hlm
        simp only [errV]
        clear hin
        go_wp2_with fail
        refine (same_yes HN7.out HO7.out.sl (by rw [HE.out])).mono ?_
        rintro e w8 ⟨rfl, n8, hw8⟩
        have g8 : Grow w7 w8 := by rw [hw8]; exact (Grow.refl _).drewN n8
        clear hw8
        go_wp2_with fail
        refine (same_yes (HS7.out.keep g8) (HT7.out.keep g8) rfl).mono ?_
        rintro e w9 ⟨rfl, n9, hw9⟩
        have g9 : Grow w8 w9 := by rw [hw9]; exact (Grow.refl _).drewN n9
        replace G := (G.trans g8).trans g9
        clear hw9 g8 g9
        go_wp2_with fail
        refine (lives3 _).mono ?_
        rintro e w10 ⟨rfl, g10⟩
        go_wp2_with fail
        go_ret
        exact ⟨rfl, G.trans g10⟩
      | true =>
        have HE := Lib.hid (show storeS 32 S a (bs.take m') = putL S a.toNat (bs.take m') by unfold storeS; rw [hlm, hin]; rfl)
        obtain ⟨h1, h2, h3⟩ := inW_iff.1 hin
        obtain ⟨b, rfl⟩ : ∃ b : Nat, a = (b : Int) := ⟨a.toNat, by omega⟩
        simp only [errV]
        have hbm : b + m' ≤ 256 := by omega
        have HBM := Lib.hid hbm
        have HLM := Lib.hid hlm
        have z1 : decide ((b : Int) < 0) = false := decide_eq_false (by omega)
        have z2 : decide ((256 : Int) < (b : Int) + (m' : Int)) = false := decide_eq_false (by omega)
        have e1 : wrap64 ((b : Int) + (m' : Int)) = (b : Int) + (m' : Int) := IntWalk.wrap64_in _ (by omega)
        clear hin hlm h1 h2 h3 hbm
        go_wp2_with fail
        go_loopw [19] (fun t wr => ElseInv w7 wr wc.heap.size g c3 b m' S (bs.take m') t) (fun t _ => m' - (intOf t).toNat)
        case atStart => exact ⟨0, rfl, Nat.zero_le _, HO7.out, Turn.refl _ _⟩
        case round =>
          obtain ⟨j, rfl, hj, ho, tr⟩ := hrel
          clear e1
          by_cases hlt : j < m'
          · have HTR := Lib.hid tr
            obtain ⟨b0, o0, rfl, hb0, cb⟩ := (HSL7.out.turn tr (fun h0 p hp q => by have := HBF.out h0 p hp; have := HGW.out; omega)).cell hlt
            obtain ⟨u, hu⟩ : ∃ u, u = (bs.take m')[j]'(by rw [HLM.out]; exact hlt) := ⟨_, rfl⟩
            rw [← hu] at cb
            obtain ⟨i, hi⟩ : ∃ i, i = b + j := ⟨_, rfl⟩
            have hi256 : i < 256 := by have := HBM.out; omega
            obtain ⟨vS, cS⟩ : ∃ v, wr.cell? ⟨g, i, none⟩ = some (.int .u8 v) := ⟨_, OB.cellAt ho.1.symm ho.2.2 i (by rw [ho.1]; exact hi256)⟩
            have fS := OB.frozenAt ho.1.symm ho.2.2 i
            have ho2 := ho.setBt i u
            rw [hu, hi, ← putL_take (by rw [HLM.out]; exact hlt), ← hi, ← hu] at ho2
            have X : ElseInv w7 (wr.setCell ⟨g, i, none⟩ (.int .u8 (u.toNat : Int))) wc.heap.size g c3 b m' S (bs.take m') (.int .i64 ((j : Int) + 1)) := ⟨j + 1, by simp, hlt, ho2, HTR.out.set ⟨g, i, none⟩ rfl _⟩
            have e5 := wrapS (M := 256) (show j < 256 by omega) (by decide)
            have e2 : wrap64 ((b : Int) + (j : Int)) = (i : Int) := by rw [IntWalk.wrap64_in _ (by clear e5; omega)]; omega
            clear hu ho ho2 tr hb0 hi
            go_wp2_with fail
            go_roundw
            case rel => (try rw [e5]); first | exact X | ((repeat apply Exists.intro); exact X) | ((repeat apply Exists.intro); refine ⟨X, ?_⟩; rfl)
            case measure => first | exact meas hlt | exact measW hlt e5
          · obtain rfl : j = m' := by omega
            rw [List.take_of_length_le (by rw [HLM.out]; exact Nat.le_refl _)] at ho
            have HN8 := Lib.hid (HN7.out.turn tr HF6.out)
            have HS8 := Lib.hid (HS7.out.turn tr HF7.out)
            have HT8 := Lib.hid (HT7.out.turn tr (fun h0 p hp => (HF4.out h0 p hp).2))
            have HO8 := Lib.hid ho.sl
            replace G := G.low (tr.low (B := W.heap.size) (fun i q => by rw [q]; exact HGW.out) G.size)
            clear ho
            go_wp2_with fail
            refine (same_yes HN8.out HO8.out (by rw [HE.out]; simp)).mono ?_
            rintro e w8 ⟨rfl, n8, hw8⟩
            have g8 : Grow wr w8 := by rw [hw8]; exact (Grow.refl _).drewN n8
            clear hw8
            go_wp2_with fail
            refine (same_yes (HS8.out.keep g8) (HT8.out.keep g8) rfl).mono ?_
            rintro e w9 ⟨rfl, n9, hw9⟩
            have g9 : Grow w8 w9 := by rw [hw9]; exact (Grow.refl _).drewN n9
            replace G := (G.trans g8).trans g9
            clear hw9 g8 g9
            go_wp2_with fail
            refine (lives3 _).mono ?_
            rintro e w10 ⟨rfl, g10⟩
            go_wp2_with fail
            go_ret
            exact ⟨rfl, G.trans g10⟩
end Go.Proofs.Ytnhgfkahmflpgaa
