/- PlogTorn: a crash behind step 2. No statement of the seat is proved here. -/
import Derived.Test.YtncjfljmnkfghaaZ26
namespace Go.Proofs.Ytncjfljmnkfghaa
open Go.RowKit

set_option maxHeartbeats 32000000 in
set_option maxRecDepth 8000 in
theorem law_torn2 (A0 : Option Addr) (n c : Nat) (LL : List (List PT)) (A1 : Option Addr) (n1 c1 : Nat) (L1 : List PT) (st : Int) (Q : Option Addr) (q dq : Nat) (pk : List Int) (W : World) (hr : RR2 W A0 LL) (hn : n = LL.length) (hr1 : RQ W A1 n1 L1) (hw1 : ∀ p ∈ L1, p.wide) (hs1 : -9223372036854775808 ≤ st) (hs2 : st ≤ 9223372036854775807) (hq : RI W Q q pk) (hdq : q ≤ dq) (h7 : (if st < 0 then -(st + 1) else st) % 7 = 2) :
    Calls Try.prog 11 #[.slice A0 n c, .slice A1 n1 c1, .int .i64 st, .slice Q q dq] W fun e w' => e = .returned (.bool true) ∧ Below W.heap.size W w' := by
  have H7 := Lib.hid h7
  clear h7
  have HR := Lib.hid hr
  have HNN := Lib.hid hn
  have HR1 := Lib.hid hr1
  have HW := Lib.hid (fewP_wide (k := 6) (m := 40) hw1)
  have HQ := Lib.hid hq
  clear hr hr1 hw1 hq hn
  go_enter Try.func11, Try.ntmps11
  go_wp2_with fail
  refine (begin8 W).mono ?_
  rintro e w1 ⟨pb, l, d, x, y, rfl, hp, -, -, -, g1⟩
  have HBO := Lib.hid (show PairW W w1 pb l d x.p y from ⟨x, fresh, rfl, hp, g1, fresh_whole⟩)
  obtain ⟨px, hpx⟩ : ∃ px, px = x.p := ⟨_, rfl⟩
  rw [← hpx] at HBO
  clear hp g1 hpx
  go_upto_block 0 with fail
  go_cut [10] (fun i wx => (∃ k : Int, i = .int .i64 k) ∧ PairW W wx pb l d px y)
  case first =>
    go_wp2_with fail
    go_loopw [10] (fun t wr => TornInv W wr pb l d px y n 4 t) (fun t _ => 4 - (intOf t).toNat)
    case atStart => exact ⟨0, rfl, Nat.zero_le _, Nat.zero_le _, HBO.out⟩
    case round =>
      obtain ⟨i, rfl, hi, hi2, hbo⟩ := hrel
      have HB := Lib.hid hbo
      have HG := Lib.hid (show Grow W wr by obtain ⟨_, _, _, _, g, _⟩ := hbo; exact g)
      clear hbo
      by_cases hlt : i < n
      · by_cases hlt2 : i < 4
        · obtain ⟨b, o, Ak, ck, Lk, rfl, hb, c0, hok, -, hwk, -⟩ := HR.out.at_ (i := i) (by rw [← HNN.out]; exact hlt)
          replace c0 := HG.out.cell c0
          have HOK := Lib.hid (hok.keep HG.out)
          have HWK := Lib.hid hwk
          clear hok hwk
          go_wp2_with fail
          refine (torn_step HB.out HOK.out HWK.out).mono ?_
          rintro r w3 ⟨rfl, hb3⟩
          have X : TornInv W w3 pb l d px y n 4 (.int .i64 ((i : Int) + 1)) := ⟨i + 1, by simp, hlt, hlt2, hb3⟩
          clear c0 hb3
          go_wp2_with fail
          go_roundw
          case rel => first | exact X | ((repeat apply Exists.intro); exact X) | ((repeat apply Exists.intro); refine ⟨X, ?_⟩; rfl)
          case measure => first | exact meas hlt2 | (simp [intOf]; omega)
        · go_wp2_with fail
          go_meet
          exact ⟨⟨_, rfl⟩, HB.out⟩
      · go_wp2_with fail
        go_meet
        exact ⟨⟨_, rfl⟩, HB.out⟩
  case rest =>
    obtain ⟨⟨kk, rfl⟩, x, s, hxp, hpx, hg, hwhole⟩ := hcut
    have HPX := Lib.hid hpx
    have HWH := Lib.hid hwhole
    have HG0 := Lib.hid hg
    have HXP := Lib.hid hxp
    clear hpx hg hwhole hxp
    go_wp2_with fail
    refine (little_c (HR1.out.keep HG0.out)).mono ?_
    rintro e w4 ⟨v4, rfl, o4, g4⟩
    have hfl := fewP_length 6 40 L1
    obtain ⟨K, hK⟩ : ∃ K, K = fewP 6 40 L1 := ⟨_, rfl⟩
    rw [← hK] at o4 HW hfl
    obtain ⟨A4, c4, rfl, hc4, r4⟩ := o4.rp (by omega)
    obtain ⟨n4, hn4⟩ : ∃ n4, n4 = K.length := ⟨_, rfl⟩
    rw [← hn4] at o4 hc4 hfl r4 ⊢
    have HN4 := Lib.hid hn4
    have O4 := Lib.hid o4
    have R4 := Lib.hid r4
    have HPX4 := Lib.hid (HPX.out.keep g4)
    have HG4 := Lib.hid (HG0.out.trans g4)
    have HXL := Lib.hid (show ∀ k, x.F k → k < w4.heap.size from HPX4.out.lg.1.lt)
    have HXL0 := Lib.hid (show ∀ k, x.F k → k < wc.heap.size from HPX.out.lg.1.lt)
    have b3 := HPX4.out.blk.c4.2.2.2
    clear o4 g4 hK hn4 r4
    go_wp2_with fail
    refine (rl_read HPX4.out.rl).mono ?_
    rintro e w5 ⟨v5, R5, rfl, o5, hR5, g5⟩
    have hm5 := recs_few s HPX4.out.ok.S
    have hl5 : R5.length = (lgL s.S).length := by rw [← hR5, List.length_map]
    obtain ⟨A5, c5, rfl, hc5, -⟩ := o5.rv (by omega)
    obtain ⟨m5, hm5e⟩ : ∃ m5, m5 = (lgL s.S).length := ⟨_, rfl⟩
    obtain ⟨U, hU⟩ : ∃ U, U = lgU s.S := ⟨_, rfl⟩
    have hU5 : U ≤ 504 := by rw [hU]; exact lgU_le
    rw [hl5, ← hm5e] at o5 hc5
    rw [← hm5e] at hm5
    rw [hl5, ← hm5e, ← hU]
    have HM5 := Lib.hid hm5e
    have HU := Lib.hid hU
    have O5 := Lib.hid o5
    have HR5 := Lib.hid hR5
    have HPX5 := Lib.hid (HPX4.out.keep g5)
    have HG5 := Lib.hid (HG4.out.trans g5)
    have O4' := Lib.hid (O4.out.keep g5)
    have R5' := Lib.hid (R4.out.keep g5)
    clear o5 hR5 g5 hm5e hU b3 O4 R4 hl5
    go_wp2_with fail
    refine (rl_encode R5'.out HW.out).mono ?_
    rintro e w6 (⟨hm, A6, c6, rfl, o6, g6⟩ | ⟨hm, rfl, g6⟩)
    case inr =>
      have GG := Lib.hid (HG5.out.trans g6)
      clear g6 hm
      go_wp2_with fail
      refine (lives8 _).mono ?_
      rintro e w7 ⟨rfl, g7⟩
      have GH := Lib.hid (GG.out.trans g7)
      clear g7
      go_wp2_with fail
      go_ret
      exact ⟨rfl, GH.out⟩
    have hml := encP_le hm
    obtain ⟨bb, hbb⟩ : ∃ bb, bb = encP K := ⟨_, rfl⟩
    obtain ⟨mb, hmb⟩ : ∃ mb, mb = bb.length := ⟨_, rfl⟩
    rw [← hbb, ← hmb] at o6 hml
    rw [← hbb, ← hmb]
    have HM := Lib.hid hm
    have HBB := Lib.hid hbb
    have HMB := Lib.hid hmb
    have O6 := Lib.hid o6
    have HLP6 := Lib.hid (show LP W w6 pb l px y.p d x s by rw [← HXP.out]; exact (HPX5.out.keep g6).lp (HG5.out.trans g6))
    have O56 := Lib.hid (O5.out.keep g6)
    have O46 := Lib.hid (O4'.out.keep g6)
    clear o6 g6 hm hbb hmb O5 O4' R5'
    by_cases hf : 504 < U + mb
    · have z1 : decide ((504 : Int) < (U : Int) + (mb : Int)) = true := decide_eq_true (by omega)
      have z2 : decide (504 < U + mb) = true := decide_eq_true hf
      clear hf
      go_wp2_with fail
      refine (lives8 _).mono ?_
      rintro e w7 ⟨rfl, g7⟩
      have GH := Lib.hid (HLP6.out.g.trans g7)
      clear g7
      go_wp2_with fail
      go_ret
      exact ⟨rfl, GH.out⟩
    have z1 : decide ((504 : Int) < (U : Int) + (mb : Int)) = false := decide_eq_false (by omega)
    have z2 : decide (504 < U + mb) = false := decide_eq_false hf
    have hUm : U + mb ≤ 504 := by omega
    have HUM := Lib.hid (show lgU s.S + (encP K).length ≤ 504 by rw [← HU.out, ← HBB.out, ← HMB.out]; exact hUm)
    clear hf
    go_upto_if 67 with fail
    go_cut [2] (fun a wx => ∃ z : Nat, a = .int .i64 (z : Int) ∧ (z : Int) ≤ 9223372036854775807 ∧ z % 7 = 2 ∧ wx = w6)
    case first =>
      by_cases hneg : st < 0
      · have e1 : wrap64 (st + 1) = st + 1 := IntWalk.wrap64_in _ (by omega)
        have e2 : wrap64 (-(st + 1)) = -(st + 1) := IntWalk.wrap64_in _ (by omega)
        have hb : decide (st < 0) = true := decide_eq_true hneg
        go_wp2_with fail
        all_goals first | (exfalso; omega) | (go_meet; exact ⟨(-(st + 1)).toNat, by rw [Int.toNat_of_nonneg (by omega)], by omega, by have := H7.out; rw [if_pos (by omega)] at this; omega, rfl⟩)
      · have hb : decide (st < 0) = false := decide_eq_false hneg
        go_wp2_with fail
        all_goals first | (exfalso; omega) | (go_meet; exact ⟨st.toNat, by rw [Int.toNat_of_nonneg (by omega)], by omega, by have := H7.out; rw [if_neg (by omega)] at this; omega, rfl⟩)
    case rest =>
      obtain ⟨z, rfl, hz, hzk, hwc⟩ := hcut
      have hwc' := hwc.symm
      subst hwc'
      have HUB := Lib.hid (show U + mb ≤ 2000 by omega)
      have t1 : Int.tmod (z : Int) 7 = 2 := by rw [Int.tmod_eq_emod_of_nonneg (by omega)]; omega
      have t2 : (z : Int) % 7 = 2 := by omega
      have y1 : IntKind.i64.wrap ((U : Int) + (mb : Int)) = (U : Int) + (mb : Int) := wrap_UmI HUB.out
      have yw : wrap64 ((U : Int) + (mb : Int)) = (U : Int) + (mb : Int) := wrap_Um HUB.out
      clear hz hzk z1 z2
      go_wp2_with fail
      refine (rput_end U mb HUB.out).mono ?_
      rintro e w7 ⟨A7, c7, rfl, o7, g7⟩
      have O7 := Lib.hid o7
      have HLP7 := Lib.hid (HLP6.out.keep g7)
      have O67 := Lib.hid (O6.out.sl.keep g7)
      have O57 := Lib.hid (O56.out.keep g7)
      have O47 := Lib.hid (O46.out.keep g7)
      have HF6 := Lib.hid (O6.out.out (F := x.F) (fun k q => HPX5.out.lg.1.lt k q))
      have HF7 := Lib.hid (O7.out.out (F := x.F) HLP6.out.lg.1.lt)
      have SL7 := Lib.hid (o7.sl)
      clear o7 g7 t1 t2 O56 O46 yw
      obtain ⟨s0, hs0⟩ : ∃ s0, s0 = s := ⟨_, rfl⟩
      have HT0 := Lib.hid (show TornAt W w7 w7 pb l px y.p d x s0 by rw [hs0]; exact ⟨HLP7.out, Turn.refl _ _⟩)
      have b0 := HT0.out.1.blk.c4.1
      go_wp2_with fail
      refine (lp_store HT0.out.1 (O67.out.turn' HT0.out.2 HF6.out) HF6.out (520 + (U : Int))).mono ?_
      rintro e v1 ⟨⟨er1, rfl⟩, h8, t8⟩
      obtain ⟨s1, hs1⟩ : ∃ z, z = s0.store (520 + (U : Int)) bb := ⟨_, rfl⟩
      rw [← hs1] at h8
      have HS1 := Lib.hid hs1
      have HT1 := Lib.hid (show TornAt W w7 v1 pb l px y.p d x s1 from ⟨h8, HT0.out.2.and t8⟩)
      clear h8 t8 b0 hs1
      have b0 := HT1.out.1.blk.c4.1
      go_wp2_with fail
      refine (lp_flush HT1.out.1 (520 + (U : Int)) (mb : Nat) (by omega) (by omega)).mono ?_
      rintro e v2 ⟨⟨er2, rfl⟩, h8, t8⟩
      obtain ⟨s2, hs2⟩ : ∃ z, z = s1.flush (520 + (U : Int)) (mb : Nat) := ⟨_, rfl⟩
      rw [← hs2] at h8
      have HS2 := Lib.hid hs2
      have HT2 := Lib.hid (show TornAt W w7 v2 pb l px y.p d x s2 from ⟨h8, HT1.out.2.and t8⟩)
      clear h8 t8 b0 hs2
      have HTB := Lib.hid (show s2 = tornB s K 2 by rw [HS2.out, HS1.out, hs0, HMB.out, HBB.out, HU.out]; rfl)
      go_upto_if 130 with fail
      go_cut [3] (fun v wx => v = .slice Q (min q 200) dq ∧ TornAt W w7 wx pb l px y.p d x s2)
      case first =>
        by_cases hqq : 200 < q
        · have z1 : decide (200 < q) = true := decide_eq_true hqq
          have z2 : decide ((200 : Int) < (q : Int)) = true := decide_eq_true (by omega)
          have HMIN := Lib.hid (show min q 200 = 200 from Nat.min_eq_right (by omega))
          have hd2 : 200 ≤ dq := by omega
          go_wp2_with fail
          all_goals first | (exfalso; omega) | (go_meet; exact ⟨by rw [HMIN.out], HT2.out⟩)
        · have z1 : decide (200 < q) = false := decide_eq_false hqq
          have z2 : decide ((200 : Int) < (q : Int)) = false := decide_eq_false (by omega)
          have HMIN := Lib.hid (show min q 200 = q from Nat.min_eq_left (by omega))
          go_wp2_with fail
          all_goals first | (exfalso; omega) | (go_meet; exact ⟨by rw [HMIN.out], HT2.out⟩)
      case rest =>
        obtain ⟨rfl, hTx⟩ := hcut
        have HTX := Lib.hid hTx
        clear hTx
        have HQ2 := Lib.hid ((HQ.out.take (k := min q 200) (Nat.min_le_left _ _)).keep HTX.out.1.g)
        have HQF := Lib.hid (show 0 < min q 200 → ∀ p, Q = some p → ¬ x.F p.block from fun h0 p hp k => by
          have := ri_low HQ.out (by omega) p hp
          have := HTX.out.1.xb _ k
          omega)
        obtain ⟨pk2, hpk2⟩ : ∃ z, z = pk.take (min q 200) := ⟨_, rfl⟩
        obtain ⟨q2, hq2⟩ : ∃ z, z = min q 200 := ⟨_, rfl⟩
        rw [← hpk2, ← hq2] at HQ2
        rw [← hq2] at HQF ⊢
        have b0 := HTX.out.1.blk.c4.1
        clear hpk2 hq2
        go_wp2_with fail
        refine (lp_crash HTX.out.1 HQ2.out HQF.out).mono ?_
        rintro e w9 ⟨rfl, x', h9, t9, -⟩
        have HL9 := Lib.hid h9
        have T79 := Lib.hid (HTX.out.2.and t9)
        obtain ⟨s9, hs9⟩ : ∃ s9, s9 = s2.crash pk2 := ⟨_, rfl⟩
        rw [← hs9] at HL9
        have HS9 := Lib.hid (show s9 = (tornB s K 2).crash pk2 by rw [hs9, HTB.out])
        have O59 := Lib.hid (O57.out.turn T79.out fun g q => .inl (HXL.out g q))
        have O49 := Lib.hid (O47.out.turn T79.out fun g hg q => by have := (World.ownsRow.lt O47.out g hg).1; have := HXL0.out g q; omega)
        have b4 := HL9.out.blk.c4.2.1
        have HLG := Lib.hid (show lgL s9.S = lgL s.S by rw [HS9.out]; exact torn_few (L := K) HPX.out.ok HWH.out HUM.out pk2 2 (by decide))
        clear h9 t9 hs9 b0
        go_wp2_with fail
        refine (lp_records HL9.out).mono ?_
        rintro e w10 ⟨A8, c8, R8, rfl, hc8, o8, hR8, g8⟩
        have O58 := Lib.hid (O59.out.keep g8)
        have O48 := Lib.hid (O49.out.keep g8)
        have G8 := Lib.hid (HL9.out.g.trans g8)
        have hR5l : R5.length = m5 := by have := congrArg List.length HR5.out; rw [List.length_map, ← HM5.out] at this; exact this
        obtain ⟨Ay, cy, ey, -, rv5⟩ := O58.out.rv (by omega)
        injection ey with e4 e5 e6
        subst e4
        rw [hR5l] at rv5
        have RV5 := Lib.hid rv5
        clear b4 g8 e5 e6 rv5 O59 O49
        · have hlog := HLG.out
          rw [hlog] at hR8 hc8 o8 ⊢
          rw [← HM5.out] at hc8 o8 ⊢
          have hR8l : R8.length = m5 := by have := congrArg List.length hR8; rw [List.length_map, ← HM5.out] at this; exact this
          obtain ⟨Ax, cx, ex, -, rv8⟩ := o8.rv (by omega)
          injection ex with e1 e2 e3
          subst e1
          rw [hR8l] at rv8
          have RV8 := Lib.hid rv8
          have HEQ := Lib.hid (show R8.map RW.L = R5.map RW.L by rw [hR8, HR5.out])
          have HSM := Lib.hid (recs_small hR8)
          have z3 : ((m5 : Int) != (m5 : Int) + 1) = true := by rw [bne_iff_ne]; omega
          clear hlog hR8 hc8 o8 hR8l e2 e3 rv8 hR5l
          go_wp2_with fail
          refine (recs_same RV8.out RV5.out HEQ.out (by omega) HSM.out).mono ?_
          rintro e w11 ⟨rfl, g9⟩
          have G9 := Lib.hid (G8.out.trans g9)
          clear g9
          go_wp2_with fail
          refine (lives8 _).mono ?_
          rintro e w12 ⟨rfl, g11⟩
          have GG := Lib.hid (G9.out.trans g11)
          clear g11
          go_wp2_with fail
          go_ret
          exact ⟨rfl, GG.out⟩
end Go.Proofs.Ytncjfljmnkfghaa
