/- The walk of the statement PmemCells. -/
import Derived.Test.YtnhgfkahmflpgaaLaws3d
import Derived.Deep.RegionHeld3
namespace Go.Proofs.Ytnhgfkahmflpgaa
open Go.RowKit

theorem picks_cut {w : World} {Q : Option Addr} {q : Nat} {pk : List Int} (h : RI w Q q pk) : RI w Q (min q 200) (pk.take (min q 200)) := by
  obtain ⟨h1, h2⟩ := h
  refine ⟨by simp; omega, ?_⟩
  have := Rd.take h2 (k := min q 200) (by omega)
  simpa [ics, List.map_take] using this
theorem dirtyL_self (T : List UInt8) (N : Nat) : dirtyL T T N = [] := by
  unfold dirtyL
  have : (List.range N).filter (dirtyB T T) = [] := by
    rw [List.filter_eq_nil_iff]
    intro k _
    unfold dirtyB
    simp
  rw [this]; rfl
/-- A cell of a mixed row is the one's or the other's, whole. -/
theorem mix_cell (S T : List UInt8) (B : Nat → Bool) (hS : S.length = T.length) {k : Nat} (hk : 8 * k + 8 ≤ T.length) :
    ((mixL S T B).drop (8 * k)).take 8 = if B k then (S.drop (8 * k)).take 8 else (T.drop (8 * k)).take 8 := by
  have hl : ∀ X : List UInt8, X.length = T.length → ((X.drop (8 * k)).take 8).length = 8 := by intro X h; rw [List.length_take, List.length_drop, h]; omega
  have hr : (if B k then (S.drop (8 * k)).take 8 else (T.drop (8 * k)).take 8).length = 8 := by split; exact hl S hS; exact hl T rfl
  refine ext_getD (by rw [hl _ (mixL_length ..), hr]) fun j hj => ?_
  rw [hl _ (mixL_length ..)] at hj
  rw [part_get _ _ _ _ hj, mixL_get _ _ _ _ (by omega), show (8 * k + j) / 8 = k by omega]
  by_cases h : B k = true
  · rw [if_pos h, if_pos h, part_get _ _ _ _ hj]
  · rw [if_neg h, if_neg h, part_get _ _ _ _ hj]

theorem cellSl {w : World} {g c i : Nat} {L : List UInt8} (h : Sl w (some ⟨g, 0, none⟩) 256 L) (hc : 256 ≤ c) (hi : i + 8 ≤ 256) : Sl w (some ⟨g, i, none⟩) 8 ((L.drop i).take 8) := by
  have h1 := (h.drop (k := i) (c := c) (by omega) hc).take (k := 8) (by omega)
  rw [if_neg (by omega), show (some (⟨g, 0, none⟩ : Addr)).map (·.add i) = some ⟨g, i, none⟩ by simp [Addr.add_lit]] at h1
  exact h1

def CellInv (w wr : World) (t : Value) : Prop := ∃ k : Nat, t = .int .i64 (k : Int) ∧ k ≤ 32 ∧ Grow w wr

set_option maxHeartbeats 8000000 in
set_option maxRecDepth 8000 in
theorem law_PmemCells (A0 : Option Addr) (n0 c0 : Nat) (L : List Dd) (P1 : Option Addr) (q1 d1 : Nat) (pk1 : List Int) (P2 : Option Addr) (q2 d2 : Nat) (pk2 : List Int) (W : World) (hr : RD W A0 n0 L) (hr1 : RI W P1 q1 pk1) (hd1 : q1 ≤ d1) (hr2 : RI W P2 q2 pk2) (hd2 : q2 ≤ d2) :
    Calls Try.prog 6 #[.slice A0 n0 c0, .slice P1 q1 d1, .slice P2 q2 d2] W fun e w' => e = .returned (.bool true) ∧ Below W.heap.size W w' := by
  have HR := Lib.hid hr
  have HR1 := Lib.hid hr1
  have HR2 := Lib.hid hr2
  have HD1 := Lib.hid hd1
  have HD2 := Lib.hid hd2
  clear hr hr1 hr2 hd1 hd2
  go_enter Try.func6, Try.ntmps6
  go_wp2_with fail
  refine (pm_new_yes 32 (by decide) W).mono ?_
  rintro e w1 ⟨x, rfl, hP, hx, g1⟩
  have HP1 := Lib.hid hP
  have HX1 := Lib.hid hx
  have HG1 := Lib.hid g1
  clear hP hx g1
  go_wp2_with fail
  refine (rm_new_yes 32 (by decide) w1).mono ?_
  rintro e w2 ⟨y, rfl, hR, hy, g2⟩
  have HBO := Lib.hid (both_new HP1.out HX1.out HG1.out hR hy g2)
  clear hR hy g2
  go_upto_block 0 with fail
  go_cut [9] (fun i wx => (∃ k : Int, i = .int .i64 k) ∧ Both W wx x.p y 32)
  case first =>
    go_wp2_with fail
    go_loopw [9] (fun t wr => PlayInv W wr x.p y 32 n0 30 t) (fun t _ => 30 - (intOf t).toNat)
    case atStart => exact ⟨0, rfl, Nat.zero_le _, Nat.zero_le _, HBO.out⟩
    case round =>
      obtain ⟨i, rfl, hi, hi2, hbo⟩ := hrel
      have HB := Lib.hid hbo
      have HG := Lib.hid (show Grow W wr by obtain ⟨_, _, _, _, _, _, g⟩ := hbo; exact g)
      clear hbo
      by_cases hlt : i < n0
      · by_cases hlt2 : i < 30
        · obtain ⟨b, o, e0, rfl, hb, hok, k0, k1, k2, k3, k4⟩ := HR.out.at_ hlt
          replace k0 := HG.out.cell k0; replace k1 := HG.out.cell k1; replace k2 := HG.out.cell k2; replace k3 := HG.out.cell k3; replace k4 := HG.out.cell k4
          have HOK := Lib.hid hok
          clear hok
          go_wp2_with fail
          refine (deed_step HB.out HOK.out).mono ?_
          rintro r w3 ⟨rfl, hb3⟩
          have X : PlayInv W w3 x.p y 32 n0 30 (.int .i64 ((i : Int) + 1)) := ⟨i + 1, by simp, hlt, hlt2, hb3⟩
          clear k0 k1 k2 k3 k4 hb3
          go_wp2_with fail
          go_roundw
          case rel => first | exact X | ((repeat apply Exists.intro); exact X) | ((repeat apply Exists.intro); refine ⟨X, ?_⟩; rfl)
          case measure => first | exact meas hlt2 | (simp [intOf]; omega)
        · go_wp2_with fail
          go_meet
          exact ⟨⟨_, rfl⟩, HB.out⟩
      · go_wp2_with fail
        go_meet
        exact ⟨⟨_, rfl⟩, HB.out⟩
  case rest =>
    obtain ⟨⟨k, rfl⟩, x', S, T, A, hp, ⟨hP, -, -, hx', -⟩, G⟩ := hcut
    have HLS := Lib.hid hP.lenS
    have HLT := Lib.hid hP.lenT
    have HP := Lib.hid hP
    have HX := Lib.hid hx'
    rw [← hp]
    clear hP hx' HP1 HX1 HG1 HBO hp
    go_wp2_with fail
    refine (pm_load HP.out 0 256 (by decide)).mono ?_
    rintro e w3 ⟨A3, c3, rfl, o3, g3⟩
    rw [List.drop_zero, List.take_of_length_le (by rw [HLS.out]; decide)] at o3
    obtain ⟨b3, rfl, hb3, -⟩ := o3.row (by decide)
    have HF3 := Lib.hid (show 0 < 256 → ∀ p, some (⟨b3, 0, none⟩ : Addr) = some p → ¬ x'.F p.block by
      intro h0 p hp q
      injection hp with hp
      subst hp
      exact absurd (HP.out.lt _ q) (Nat.not_lt.2 hb3))
    have HS3 := Lib.hid o3.sl
    have HC3 := Lib.hid o3.cap
    have HP3 := Lib.hid (HP.out.keep g3)
    replace G := G.trans g3
    clear o3 g3 HP
    go_wp2_with fail
    refine (pm_lasts HP3.out 0 256 (by decide)).mono ?_
    rintro e w4 ⟨A4, c4, rfl, o4, g4⟩
    rw [List.drop_zero, List.take_of_length_le (by rw [HLT.out]; decide)] at o4
    obtain ⟨b4, rfl, hb4, -⟩ := o4.row (by decide)
    have HF4 := Lib.hid (show 0 < 256 → ∀ p, some (⟨b4, 0, none⟩ : Addr) = some p → ¬ x'.F p.block by
      intro h0 p hp q
      injection hp with hp
      subst hp
      exact absurd (HP3.out.lt _ q) (Nat.not_lt.2 hb4))
    have HS4 := Lib.hid o4.sl
    have HC4 := Lib.hid o4.cap
    have HT4 := Lib.hid (HS3.out.keep g4)
    have HP4 := Lib.hid (HP3.out.keep g4)
    replace G := G.trans g4
    clear o4 g4 HP3 HS3
    go_upto_if 55 with fail
    go_cut [1] (fun s wx => s = .slice P1 (min q1 200) d1 ∧ wx = w4)
    case first =>
      have hqd := HD1.out
      by_cases hq : 200 < q1
      · have z1 : decide (200 < q1) = true := decide_eq_true hq
        have z2 : decide ((200 : Int) < (q1 : Int)) = true := decide_eq_true (by omega)
        have HMIN := Lib.hid (show min q1 200 = 200 from Nat.min_eq_right (by omega))
        have hd2 : 200 ≤ d1 := by omega
        go_wp2_with fail
        go_meet
        exact ⟨by rw [HMIN.out], rfl⟩
      · have z1 : decide (200 < q1) = false := decide_eq_false hq
        have z2 : decide ((200 : Int) < (q1 : Int)) = false := decide_eq_false (by omega)
        have HMIN := Lib.hid (show min q1 200 = q1 from Nat.min_eq_left (by omega))
        go_wp2_with fail
        go_meet
        exact ⟨by rw [HMIN.out], rfl⟩
    case rest =>
      obtain ⟨rfl, hw⟩ := hcut
      have hw' := hw.symm
      subst hw'
      go_upto_if 60 with fail
      go_cut [2] (fun s wx => s = .slice P2 (min q2 200) d2 ∧ wx = w4)
      case first =>
        have hqd := HD2.out
        by_cases hq : 200 < q2
        · have z1 : decide (200 < q2) = true := decide_eq_true hq
          have z2 : decide ((200 : Int) < (q2 : Int)) = true := decide_eq_true (by omega)
          have HMIN := Lib.hid (show min q2 200 = 200 from Nat.min_eq_right (by omega))
          have hd2 : 200 ≤ d2 := by omega
          go_wp2_with fail
          go_meet
          exact ⟨by rw [HMIN.out], rfl⟩
        · have z1 : decide (200 < q2) = false := decide_eq_false hq
          have z2 : decide ((200 : Int) < (q2 : Int)) = false := decide_eq_false (by omega)
          have HMIN := Lib.hid (show min q2 200 = q2 from Nat.min_eq_left (by omega))
          go_wp2_with fail
          go_meet
          exact ⟨by rw [HMIN.out], rfl⟩
      case rest =>
        obtain ⟨rfl, hw⟩ := hcut
        have hw' := hw.symm
        subst hw'
        have HQ1 := Lib.hid (picks_cut (HR1.out.keep G))
        have HQ2 := Lib.hid (picks_cut (HR2.out.keep G))
        have HB1 := Lib.hid (show 0 < min q1 200 → ∀ p, P1 = some p → p.block < W.heap.size from fun h0 p hp => by
          obtain ⟨b, o, e, hb, -⟩ := HR1.out.2.2 (by omega)
          rw [e] at hp
          injection hp with hp
          subst hp
          exact hb)
        have HB2 := Lib.hid (show 0 < min q2 200 → ∀ p, P2 = some p → p.block < W.heap.size from fun h0 p hp => by
          obtain ⟨b, o, e, hb, -⟩ := HR2.out.2.2 (by omega)
          rw [e] at hp
          injection hp with hp
          subst hp
          exact hb)
        go_wp2_with fail
        refine (pm_crash HP4.out HQ1.out (fun h0 p hp k => absurd (HX.out _ k) (Nat.not_le.2 (HB1.out h0 p hp)))).mono ?_
        rintro e w5 ⟨rfl, g5, hg5, hP5, t5⟩
        obtain ⟨T1, hT1⟩ : ∃ T1, T1 = mixL S T (crashB (dirtyL S T 32) (pk1.take (min q1 200)) (dirtyL S T 32).length) := ⟨_, rfl⟩
        have HT1 := Lib.hid hT1
        rw [← hT1] at hP5
        have HX5 := Lib.hid (show ∀ k, (⟨x'.p, g5, x'.gt, x'.b⟩ : MB).F k → W.heap.size ≤ k by
          intro k hk
          rcases hk with h | h | h | h
          · exact HX.out k (.inl h)
          · subst h; exact Nat.le_trans G.size hg5
          · exact HX.out k (.inr (.inr (.inl h)))
          · exact HX.out k (.inr (.inr (.inr h))))
        have HS5 := Lib.hid (HT4.out.turn t5 HF3.out)
        have HL5 := Lib.hid (HS4.out.turn t5 HF4.out)
        have HQ5 := Lib.hid (HQ2.out.turn t5 (fun h0 p hp k => absurd (HX.out _ k) (Nat.not_le.2 (HB2.out h0 p hp))))
        replace G := G.low (t5.low HX.out G.size)
        have HP5 := Lib.hid hP5
        obtain ⟨z, hz⟩ : ∃ z : MB, z = ⟨x'.p, g5, x'.gt, x'.b⟩ := ⟨_, rfl⟩
        have hzp : x'.p = z.p := by rw [hz]
        rw [← hz] at HP5 HX5
        rw [hzp]
        clear hP5 hT1 t5 hg5 hz hzp HQ1 HQ2 HP4 HT4 HS4
        go_wp2_with fail
        refine (pm_load HP5.out 0 256 (by decide)).mono ?_
        rintro e w6 ⟨A6, c6, rfl, o6, g6⟩
        rw [List.drop_zero, List.take_of_length_le (by rw [HP5.out.lenS]; decide)] at o6
        obtain ⟨b6, rfl, hb6, -⟩ := o6.row (by decide)
        have HF6 := Lib.hid (show 0 < 256 → ∀ p, some (⟨b6, 0, none⟩ : Addr) = some p → ¬ z.F p.block by
          intro h0 p hp q
          injection hp with hp
          subst hp
          exact absurd (HP5.out.lt _ q) (Nat.not_lt.2 hb6))
        have HS6 := Lib.hid o6.sl
        have HC6 := Lib.hid o6.cap
        have HP6 := Lib.hid (HP5.out.keep g6)
        have HSE := Lib.hid (HS5.out.keep g6)
        have HLA := Lib.hid (HL5.out.keep g6)
        have HQ6 := Lib.hid (HQ5.out.keep g6)
        have HLT1 := Lib.hid (HP5.out.lenT)
        replace G := G.trans g6
        clear o6 g6 HP5 HS5 HL5 HQ5
        go_wp2_with fail
        refine (pm_dirty HP6.out).mono ?_
        rintro e w7 ⟨v7, rfl, o7, g7⟩
        rw [dirtyL_self] at o7
        obtain ⟨A7, c7, rfl, -, -⟩ := OI.ri o7
        have G7 := Lib.hid g7
        clear o7 g7
        have HCC := Lib.hid (show 256 ≤ c6 ∧ 256 ≤ c3 ∧ 256 ≤ c4 from ⟨HC6.out, HC3.out, HC4.out⟩)
        have HN7 := Lib.hid (HS6.out.keep G7.out)
        have HSE7 := Lib.hid (HSE.out.keep G7.out)
        have HLA7 := Lib.hid (HLA.out.keep G7.out)
        have HP7 := Lib.hid (HP6.out.keep G7.out)
        have HQ7 := Lib.hid (HQ6.out.keep G7.out)
        replace G := G.trans G7.out
        clear HS6 HSE HLA HP6 HQ6 G7 HC6 HC3 HC4 hb3 hb4 hb6
        go_wp2_with fail
        go_loopw [16] (fun t wr => CellInv w7 wr t) (fun t _ => 32 - (intOf t).toNat)
        case atStart => exact ⟨0, rfl, by omega, Grow.refl _⟩
        case round =>
          obtain ⟨j, rfl, hj, g8⟩ := hrel
          by_cases hlt : j < 32
          · obtain ⟨i, hi⟩ : ∃ i, i = 8 * j := ⟨_, rfl⟩
            have hcc : 8 * (j : Int) = (i : Int) := by omega
            have hi2 : i + 8 ≤ 256 := by omega
            have HI := Lib.hid hi
            obtain ⟨hc6, hc3, hc4⟩ := HCC.out
            have i1 : i + 8 ≤ c6 := by omega
            have i2 : i + 8 ≤ c3 := by omega
            have i3 : i + 8 ≤ c4 := by omega
            have n1 : ¬ c6 = i := by omega
            have n2 : ¬ c3 = i := by omega
            have n3 : ¬ c4 = i := by omega
            have j1 : (i : Int) + 8 ≤ (c6 : Int) := by omega
            have j2 : (i : Int) + 8 ≤ (c3 : Int) := by omega
            have j3 : (i : Int) + 8 ≤ (c4 : Int) := by omega
            have j4 : ((i : Int) + 8).toNat = i + 8 := by omega
            have j5 : (i : Int) ≤ (i : Int) + 8 := by omega
            have j6 : (0 : Int) ≤ (i : Int) + 8 := by omega
            have j7 : i ≤ c6 := by omega
            have j8 : i ≤ c3 := by omega
            have j9 : i ≤ c4 := by omega
            have HN8 := Lib.hid (cellSl (HN7.out.keep g8) HCC.out.1 hi2)
            have HA8 := Lib.hid (cellSl (HSE7.out.keep g8) HCC.out.2.1 hi2)
            have HB8 := Lib.hid (cellSl (HLA7.out.keep g8) HCC.out.2.2 hi2)
            have HG8 := Lib.hid g8
            have y1 : IntKind.i64.wrap (i : Int) = (i : Int) := IntWalk.i64_in _ (by omega)
            have y2 : IntKind.i64.wrap ((i : Int) + 8) = (i : Int) + 8 := IntWalk.i64_in _ (by clear y1; omega)
            have p1 : wrap64 (i : Int) = (i : Int) := wrap_small (by clear y1 y2; omega)
            have p2 : wrap64 ((i : Int) + 8) = (i : Int) + 8 := IntWalk.wrap64_in _ (by clear p1 y1 y2; omega)
            have e5 := wrapS (M := 256) (show j < 256 by clear p1 p2 y1 y2; omega) (by decide)
            have HY1 := Lib.hid y1
            have HY2 := Lib.hid y2
            have z0 : decide ((j : Int) < 32) = true := decide_eq_true (by clear y1 y2 p1 p2 e5; omega)
            have z0' : decide (j < 32) = true := decide_eq_true hlt
            clear hi hc6 hc3 hc4 g8 y1 y2
            go_upto_region 22 with (fail)
            go_cut [17] (fun s wx => ∃ sb : Bool, s = .bool sb ∧ Hid (sb = decide ((T1.drop i).take 8 = (S.drop i).take 8)) ∧ Grow wr wx)
            case first =>
              have y1 := HY1.out
              have y2 := HY2.out
              go_region_with (go_at_call 18; refine (same_s (HN8.out.keep ?_) (HA8.out.keep ?_)).mono ?_; (repeat (first | exact Grow.refl _ | refine Grow.drew ?_ | refine Grow.drewN ?_ _)); rintro e w20 ⟨sb, rfl, hsb, nn, hw20⟩)
              all_goals
                go_wp2_with fail
                go_meet
                exact ⟨sb, rfl, hsb, (Grow.refl _).drewN _⟩
            case rest =>
              obtain ⟨sb1, rfl, HSB1, g9⟩ := hcut
              have HN9 := Lib.hid (HN8.out.keep g9)
              have HB9 := Lib.hid (HB8.out.keep g9)
              have HG9 := Lib.hid (HG8.out.trans g9)
              clear g9
              go_upto_region 23 with (fail)
              go_cut [18] (fun s wx => ∃ sb : Bool, s = .bool sb ∧ Hid (sb = decide ((T1.drop i).take 8 = (T.drop i).take 8)) ∧ Grow wc wx)
              case first =>
                have y1 := HY1.out
                have y2 := HY2.out
                go_region_with (go_at_call 18; refine (same_s (HN9.out.keep ?_) (HB9.out.keep ?_)).mono ?_; (repeat (first | exact Grow.refl _ | refine Grow.drew ?_ | refine Grow.drewN ?_ _)); rintro e w20 ⟨sb, rfl, hsb, nn, hw20⟩)
                all_goals
                  go_wp2_with fail
                  go_meet
                  exact ⟨sb, rfl, hsb, (Grow.refl _).drewN _⟩
              case rest =>
                obtain ⟨sb2, rfl, HSB2, g10⟩ := hcut
                have X : ∀ w', Grow w7 w' → CellInv w7 w' (.int .i64 ((j : Int) + 1)) := fun w' g => ⟨j + 1, by simp, hlt, g⟩
                have HX := Lib.hid (X _ (HG9.out.trans g10))
                have hor : sb1 = true ∨ sb2 = true := by
                  have hc := mix_cell S T (crashB (dirtyL S T 32) (pk1.take (min q1 200)) (dirtyL S T 32).length) (by rw [HLS.out, HLT.out]) (k := j) (by rw [HLT.out]; clear p1 p2 e5; omega)
                  rw [← HT1.out, ← HI.out] at hc
                  by_cases hb : crashB (dirtyL S T 32) (pk1.take (min q1 200)) (dirtyL S T 32).length j = true
                  · rw [if_pos hb] at hc
                    exact .inl (by rw [HSB1.out]; exact decide_eq_true hc)
                  · rw [if_neg hb] at hc
                    exact .inr (by rw [HSB2.out]; exact decide_eq_true hc)
                clear X g10 HSB1 HSB2 hi2 i1 i2 i3 n1 n2 n3 p1 p2 hcc j1 j2 j3 j4 j5 j6 j7 j8 j9
                cases sb1 with
                | true =>
                  clear hor
                  go_wp2_with fail
                  go_roundw
                  case rel => (try rw [e5]); first | exact HX.out | ((repeat apply Exists.intro); exact HX.out) | ((repeat apply Exists.intro); refine ⟨HX.out, ?_⟩; rfl)
                  case measure => first | exact meas hlt | exact measW hlt e5
                | false =>
                  obtain rfl : sb2 = true := by rcases hor with h | h; cases h; exact h
                  clear hor
                  go_wp2_with fail
                  go_roundw
                  case rel => (try rw [e5]); first | exact HX.out | ((repeat apply Exists.intro); exact HX.out) | ((repeat apply Exists.intro); refine ⟨HX.out, ?_⟩; rfl)
                  case measure => first | exact meas hlt | exact measW hlt e5
          · have HN8 := Lib.hid (HN7.out.keep g8)
            have HP8 := Lib.hid (HP7.out.keep g8)
            have HQ8 := Lib.hid (HQ7.out.keep g8)
            replace G := G.trans g8
            clear g8
            go_wp2_with fail
            refine (pm_crash HP8.out HQ8.out (fun h0 p hp k => absurd (HX5.out _ k) (Nat.not_le.2 (HB2.out h0 p hp)))).mono ?_
            rintro e w9 ⟨rfl, g9, hg9, hP9, t9⟩
            have hTT : mixL T1 T1 (crashB (dirtyL T1 T1 32) (pk2.take (min q2 200)) (dirtyL T1 T1 32).length) = T1 := by
              rw [dirtyL_self]; exact mixL_none T1 T1 (fun k => rfl)
            rw [hTT] at hP9
            have HN9 := Lib.hid (HN8.out.turn t9 HF6.out)
            have HP9 := Lib.hid hP9
            replace G := G.low (t9.low HX5.out G.size)
            clear hP9 t9 hg9 hTT
            go_wp2_with fail
            refine (pm_load HP9.out 0 256 (by decide)).mono ?_
            rintro e w10 ⟨A10, c10, rfl, o10, g10⟩
            rw [List.drop_zero, List.take_of_length_le (by rw [HLT1.out]; decide)] at o10
            have s10 := o10.sl
            have s9 := HN9.out.keep g10
            replace G := G.trans g10
            clear o10 g10
            go_wp2_with fail
            refine (same_yes s9 s10 rfl).mono ?_
            rintro e w11 ⟨rfl, n11, hw11⟩
            replace G : Grow W w11 := by rw [hw11]; exact G.drewN n11
            clear s9 s10 hw11
            go_wp2_with fail
            refine (lives3 _).mono ?_
            rintro e w12 ⟨rfl, g12⟩
            go_wp2_with fail
            go_ret
            exact ⟨rfl, G.trans g12⟩
end Go.Proofs.Ytnhgfkahmflpgaa
