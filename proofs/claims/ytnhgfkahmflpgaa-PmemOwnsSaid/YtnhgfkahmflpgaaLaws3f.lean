/- The walk of the statement PmemOwns. -/
import Derived.Test.YtnhgfkahmflpgaaLaws3e
import Derived.Test.YtnhgfkahmflpgaaFill
namespace Go.Proofs.Ytnhgfkahmflpgaa
open Go.RowKit

/-- A block of bytes is none of a memory's. -/
theorem not_mem {w : World} {x : MB} {N : Nat} {S T : List UInt8} {A : List Bool} (h : PM w x N S T A) {g : Nat} {cur : Array Value} {fz : Nat × Nat} (hg : w.heap[g]? = some (.cells cur 5 fz)) : ¬ x.F g := by
  obtain ⟨cs, ct, h1, h2, h3, h4, h5, h6, h7⟩ := h
  obtain ⟨D, ⟨es, clock, h7, -⟩, -⟩ := h7
  obtain ⟨-, -, -, c4, h4, -⟩ := h4
  obtain ⟨-, -, -, c5, h5, -⟩ := h5
  obtain ⟨-, -, -, c6, h6, -⟩ := h6
  rintro (rfl | rfl | rfl | rfl)
  · rw [h4] at hg; cases hg
  · rw [h5] at hg; cases hg
  · rw [h6] at hg; cases hg
  · rw [h7] at hg; cases hg
theorem own_heap {w : World} {base n c k : Nat} {A : Option Addr} {bs : List UInt8} (h : Own w base A n c bs) (hk : AtB A k) : ∃ cur, w.heap[k]? = some (.cells cur 5) := by
  obtain ⟨p, rfl, rfl⟩ := hk
  rcases h.2.2.2 with ⟨q, _⟩ | ⟨g, cap, cur, hv, hb, hg, _⟩
  · cases q
  · injection hv with e1
    injection e1 with e1
    subst e1
    exact ⟨cur, hg⟩
theorem Own.atB {w : World} {base n c k : Nat} {A : Option Addr} {bs : List UInt8} (h : Own w base A n c bs) (hk : AtB A k) : base ≤ k ∧ k < w.heap.size := (AnyRow.of_own h).blk k hk
theorem AnyRow.of_oi {w : World} {base c : Nat} {A : Option Addr} {L : List Int} (h : OI w base (.slice A L.length c) L) : AnyRow w base 3 A L.length c := ⟨_, h⟩

set_option maxHeartbeats 8000000 in
set_option maxRecDepth 8000 in
theorem law_PmemOwns (A0 : Option Addr) (n0 c0 : Nat) (L : List Dd) (W : World) (hr : RD W A0 n0 L) :
    Calls Try.prog 8 #[.slice A0 n0 c0] W fun e w' => e = .returned (.bool true) ∧ Below W.heap.size W w' := by
  have HR := Lib.hid hr
  clear hr
  go_enter Try.func8, Try.ntmps8
  go_wp2_with fail
  refine (pm_new_yes 32 (by decide) W).mono ?_
  rintro e w1 ⟨x, rfl, hP, hx, g1⟩
  have HP1 := Lib.hid hP
  have HX1 := Lib.hid hx
  have HG1 := Lib.hid g1
  clear hP hx g1
  go_wp2_with fail
  refine (rm_new_yes 32 (by decide) w1).mono ?_
  rintro e w2 ⟨y, rfl, hR, hy, g2⟩
  have HBO := Lib.hid (both_new HP1.out HX1.out HG1.out hR hy g2)
  clear hR hy g2 HP1 HX1 HG1
  go_upto_block 0 with fail
  go_cut [5] (fun i wx => (∃ k : Int, i = .int .i64 k) ∧ Both W wx x.p y 32)
  case first =>
    go_wp2_with fail
    go_loopw [5] (fun t wr => PlayInv W wr x.p y 32 n0 20 t) (fun t _ => 20 - (intOf t).toNat)
    case atStart => exact ⟨0, rfl, Nat.zero_le _, Nat.zero_le _, HBO.out⟩
    case round =>
      obtain ⟨i, rfl, hi, hi2, hbo⟩ := hrel
      have HB := Lib.hid hbo
      have HG := Lib.hid (show Grow W wr by obtain ⟨_, _, _, _, _, _, g⟩ := hbo; exact g)
      clear hbo
      by_cases hlt : i < n0
      · by_cases hlt2 : i < 20
        · obtain ⟨b, o, e0, rfl, hb, hok, k0, k1, k2, k3, k4⟩ := HR.out.at_ hlt
          replace k0 := HG.out.cell k0; replace k1 := HG.out.cell k1; replace k2 := HG.out.cell k2; replace k3 := HG.out.cell k3; replace k4 := HG.out.cell k4
          obtain ⟨-, hn1, h3, h4, h5, h6, h7⟩ := hok
          obtain ⟨dk, da, dn, dB, dbs, dc, dQ, dpk, dd⟩ := e0
          simp only at k0 k1 k2 k3 k4 hn1 h3 h4 h5 h6 h7
          obtain ⟨m', hm'⟩ : ∃ m', m' = min dbs.length 100 := ⟨_, rfl⟩
          obtain ⟨q', hq'⟩ : ∃ q', q' = min dpk.length 200 := ⟨_, rfl⟩
          have HCUT := Lib.hid (cut3 dk da dn dB dbs.length dc dQ dpk.length dd h4 h6 wr)
          rw [← hm', ← hq'] at HCUT
          have HM := Lib.hid (show m' ≤ dbs.length ∧ m' ≤ 100 by omega)
          have HQ := Lib.hid (show q' ≤ dpk.length ∧ q' ≤ dd by omega)
          have HSL := Lib.hid (show RB W W.heap.size dB (dbs.take m') from h3.take (by omega))
          have HRI := Lib.hid (show RI W dQ q' (dpk.take q') by rw [hq']; exact picks_cut h5)
          have HN1 := Lib.hid hn1
          have H7 := Lib.hid (show ∀ p ∈ dpk.take q', -9223372036854775808 ≤ p ∧ p ≤ 9223372036854775807 from fun p hp => h7 p (List.mem_of_mem_take hp))
          have HQB := Lib.hid (show 0 < q' → ∀ p, dQ = some p → p.block < W.heap.size from fun h0 p hp => by
            obtain ⟨b, o, e, hb, -⟩ := h5.2.2 (by omega)
            rw [e] at hp
            injection hp with hp
            subst hp
            exact hb)
          clear hn1 h3 h4 h5 h6 h7 hm' hq'
          go_wp2_with fail
          refine HCUT.out.mono ?_
          rintro e w3 ⟨rfl, g3⟩
          unfold dv
          clear k0 k1 k2 k3 k4 HCUT
          have HB3 := Lib.hid (HB.out.keep g3)
          have HG3 := Lib.hid (HG.out.trans g3)
          clear g3
          go_upto_region 10 with (fail)
          have R3 := Row.new w3 34 [.int .i64 dk, .int .i64 da, .int .i64 dn, .slice dB m' dc, .slice dQ q' dd] _ rfl
          have G34 := (Grow.refl w3).alloc (.cells #[.int .i64 dk, .int .i64 da, .int .i64 dn, .slice dB m' dc, .slice dQ q' dd] 34)
          obtain ⟨g6, hg6⟩ : ∃ g6, g6 = w3.heap.size := ⟨_, rfl⟩
          obtain ⟨w4, hw4⟩ : ∃ w4, w4 = w3.alloc (.cells #[.int .i64 dk, .int .i64 da, .int .i64 dn, .slice dB m' dc, .slice dQ q' dd] 34) := ⟨_, rfl⟩
          rw [← hw4] at R3 G34 ⊢
          rw [← hg6] at R3 ⊢
          clear hw4 hg6
          have c0 := R3.1.2 0 _ rfl; have c1 := R3.1.2 1 _ rfl; have c2 := R3.1.2 2 _ rfl; have c3 := R3.1.2 3 _ rfl; have c4 := R3.1.2 4 _ rfl
          have l4 := R3.1.1
          have HB4 := Lib.hid (HB3.out.keep G34)
          have HG4 := Lib.hid (HG3.out.trans G34)
          have HLT := Lib.hid (show (dbs.take m').length = m' by rw [List.length_take]; have := HM.out; omega)
          have HSL4 := Lib.hid ((RB.below HSL.out HG4.out).more HG4.out.size)
          clear HB3 HG3 G34
          go_wp2_with (at_builtin; refine wpList_appB rfl (.tmp 38) (.tmp 40) rfl w4.heap.size _ [] rfl (OB.nil _ _) _ dB _ (dbs.take m') m' HLT.out.symm rfl HSL4.out (by have := HLT.out; have := HM.out; simp; omega) (Nat.le_refl _) ?_; intro v5 w5 q1 q2 q3 q4; clear q3 q4; rw [List.nil_append] at q1; obtain ⟨A5, c5, rfl, o5⟩ := Own.ofOB q1 m' HLT.out (by have := HM.out; omega); have R5 := R3.keep q2; have d0 := R5.1.2 0 _ rfl; have d1 := R5.1.2 1 _ rfl; have d2 := R5.1.2 2 _ rfl; have d3 := R5.1.2 3 _ rfl; have d4 := R5.1.2 4 _ rfl; have l5 := R5.1.1; clear q1 R5 c0 c1 c2 c3 c4 l4)
          have HO5 := Lib.hid o5
          have HLO5 := Lib.hid (show ∀ k, AtB A5 k → w4.heap.size ≤ k ∧ k < w5.heap.size from fun k hk => o5.atB hk)
          have G5 : Grow w4 (w5.alloc (.cells #[.int .i64 dk, .int .i64 da, .int .i64 dn, .slice A5 m' c5, .slice dQ q' dd] 34)) := Grow.alloc q2 _
          have HO6 := Lib.hid (show Own (w5.alloc (.cells #[.int .i64 dk, .int .i64 da, .int .i64 dn, .slice A5 m' c5, .slice dQ q' dd] 34)) w4.heap.size A5 m' c5 (dbs.take m') from o5.alloc _)
          have HCC := Lib.hid o5.cap
          have HS6 := Lib.hid HO6.out.sl
          have HQ6 := Lib.hid (HRI.out.keep (HG4.out.trans G5))
          obtain ⟨x', S, T, A, hp, hpair, G6⟩ := HB4.out.keep G5
          have hsz : ∀ k, AtB A5 k → ¬ x'.F k ∧ ¬ y.F k := by
            intro k hk
            obtain ⟨x2, S2, T2, A2, hp2, ⟨hP2, hR2, -⟩, -⟩ := HB4.out
            obtain ⟨cur, hcur⟩ := own_heap HO6.out hk
            exact ⟨not_mem hpair.1 hcur, fun q => by have := hR2.lt _ q; have := (HLO5.out k hk).1; omega⟩
          have HSZ := Lib.hid hsz
          have HP6 := Lib.hid hpair
          have HG6 := Lib.hid G6
          have HPX := Lib.hid hp
          rw [← hp]
          clear hp hpair hsz G6 q2 o5 G5 R3 d0 d1 d2 d3 d4 l5 HB4 HO5
          refine (does3 HP6.out HG6.out.size dk da dn A5 m' c5 dQ q' dd (dbs.take m') (dpk.take q') HN1.out.1 HN1.out.2 HLT.out (by rw [List.length_take]; have := HQ.out; omega) HCC.out HQ.out.2 HS6.out.2.2 HQ6.out (fun h0 p hp => HSZ.out _ ⟨p, hp, rfl⟩) (fun h0 p hp => ⟨fun k => absurd (HP6.out.2.2.2.1 _ k) (Nat.not_le.2 (HQB.out h0 p hp)), fun k => absurd (HP6.out.2.2.2.2 _ k) (Nat.not_le.2 (HQB.out h0 p hp))⟩) H7.out).mono ?_
          rintro e w7 ⟨rfl, x7, S7, T7, D7, hp7, hpair7, hb7, hz7, hk7⟩
          have ho7 : AnyRow w7 w4.heap.size 5 A5 m' c5 := (AnyRow.of_own HO6.out).kept fun k hk => hk7 k (by have := (HLO5.out k hk).2; simp; omega) (HSZ.out k hk).1 (HSZ.out k hk).2
          have hf7 : ∀ k, AtB A5 k → ¬ x7.F k := by
            intro k hk
            obtain ⟨cur, hcur⟩ := own_heap HO6.out hk
            exact not_mem hpair7.1 ((hk7 k (by have := (HLO5.out k hk).2; simp; omega) (HSZ.out k hk).1 (HSZ.out k hk).2).trans hcur)
          have HF7 := Lib.hid hf7
          have HY7 := Lib.hid (show ∀ k, AtB A5 k → ¬ y.F k from fun k hk => (HSZ.out k hk).2)
          have HA7 := Lib.hid ho7
          have HP7 := Lib.hid hpair7
          have HG7 := Lib.hid (HG6.out.low hb7)
          have HW4 := Lib.hid HG4.out.size
          have HPY := Lib.hid (hp7.trans HPX.out)
          rw [← hp7]
          clear HPX hp7 hpair7 hb7 hz7 hk7 ho7 hf7 HP6 HG6 HO6 HS6 HQ6 HSZ HLO5 HCC
          go_wp2_with fail
          go_loopw [10] (fun t wq => FillInv w7 wq w4.heap.size 5 A5 m' c5 t) (fun t _ => m' - (intOf t).toNat)
          case atStart => exact ⟨0, rfl, Nat.zero_le _, HA7.out, Turn.refl _ _⟩
          case round =>
            obtain ⟨j, rfl, hj, ha, ht⟩ := hrel
            by_cases hjm : j < m'
            · obtain ⟨g, rfl, hg1, hg2, ⟨v, hv⟩, hfz, hset⟩ := ha.at_ hjm
              have X : FillInv w7 (wr.setCell ⟨g, j, none⟩ (.int .u8 77)) w4.heap.size 5 (some ⟨g, 0, none⟩) m' c5 (.int .i64 ((j : Int) + 1)) := ⟨j + 1, by simp, hjm, hset _, ht.and (Turn.setCell _ ⟨_, rfl, rfl⟩ _)⟩
              have e5 := wrapS (M := 256) (show j < 256 by have := HM.out; omega) (by decide)
              clear ha hset ht
              go_wp2_with fail
              go_roundw
              case rel => (try rw [e5]); first | exact X | ((repeat apply Exists.intro); exact X) | ((repeat apply Exists.intro); refine ⟨X, ?_⟩; rfl)
              case measure => first | exact meas hjm | exact measW hjm e5
            · have hpr : Pair wr W.heap.size x7 y 32 S7 T7 D7 :=
                ⟨HP7.out.1.turn ht (fun k hk => HF7.out k hk), HP7.out.2.1.turn ht (fun k hk => HY7.out k hk), HP7.out.2.2⟩
              have HLS := Lib.hid hpr.1.lenS
              have HLT7 := Lib.hid hpr.1.lenT
              have HP8 := Lib.hid hpr
              have HG8 := Lib.hid (HG7.out.low (ht.low (fun k hk => Nat.le_trans HW4.out (HA7.out.blk k hk).1) HG7.out.size))
              clear hpr ha ht HA7 HP7 HG7
              go_wp2_with fail
              refine (pm_load HP8.out.1 0 256 (by decide)).mono ?_
              rintro e w8 ⟨A8, c8, rfl, o8, g8⟩
              rw [List.drop_zero, List.take_of_length_le (by rw [HLS.out]; decide)] at o8
              have HA8 := Lib.hid (AnyRow.of_own o8)
              have HP9 := Lib.hid (HP8.out.keep g8)
              have HG9 := Lib.hid (HG8.out.trans g8)
              have HX8 := Lib.hid (show ∀ k, AtB A8 k → W.heap.size ≤ k ∧ ¬ x7.F k ∧ ¬ y.F k from fun k hk => ⟨Nat.le_trans HG8.out.size (HA8.out.blk k hk).1, fun q => by have := HP8.out.1.lt _ q; have := (HA8.out.blk k hk).1; omega, fun q => by have := HP8.out.2.1.lt _ q; have := (HA8.out.blk k hk).1; omega⟩)
              clear o8 g8
              go_wp2_with fail
              refine (pm_lasts HP9.out.1 0 256 (by decide)).mono ?_
              rintro e w9 ⟨A9, c9, rfl, o9, g9⟩
              rw [List.drop_zero, List.take_of_length_le (by rw [HLT7.out]; decide)] at o9
              have HB9 := Lib.hid ((AnyRow.of_own o9).keep (Grow.refl _))
              have HA9 := Lib.hid (HA8.out.keep g9)
              have HP10 := Lib.hid (HP9.out.keep g9)
              have HG10 := Lib.hid (HG9.out.trans g9)
              have HX9 := Lib.hid (show ∀ k, AtB A9 k → W.heap.size ≤ k ∧ ¬ x7.F k ∧ ¬ y.F k from fun k hk => ⟨Nat.le_trans HG9.out.size (HB9.out.blk k hk).1, fun q => by have := HP9.out.1.lt _ q; have := (HB9.out.blk k hk).1; omega, fun q => by have := HP9.out.2.1.lt _ q; have := (HB9.out.blk k hk).1; omega⟩)
              have HAB := Lib.hid (show ∀ k, AtB A8 k → ¬ AtB A9 k from fun k hk q => by have := (HA8.out.blk k hk).2; have := (HB9.out.blk k q).1; omega)
              clear o9 g9
              have HL8 := Lib.hid ((HA9.out).low (Nat.zero_le _))
              have HL9 := Lib.hid ((HB9.out).low (Nat.zero_le _))
              clear HA8 HB9 HA9 HP8 HP9 HG8 HG9 HLS HLT7
              go_wp2_with fail
              go_loopw [15] (fun t wq => Fill2Inv w9 wq 0 5 A8 A9 256 c8 c9 t) (fun t _ => 256 - (intOf t).toNat)
              case atStart => exact ⟨0, rfl, Nat.zero_le _, HL8.out, HL9.out, Turn.refl _ _⟩
              case round =>
                obtain ⟨j, rfl, hj, ha, hb, ht⟩ := hrel
                by_cases hjm : j < 256
                · obtain ⟨g, rfl, hg1, hg2, ⟨v, hv⟩, hfz, hset⟩ := ha.at_ hjm
                  obtain ⟨g', rfl, hg1', hg2', ⟨v', hv'⟩, hfz', hset'⟩ := hb.at_ hjm
                  have hne : g ≠ g' := fun q => HAB.out g ⟨_, rfl, rfl⟩ ⟨_, rfl, q.symm⟩
                  have hv2 := cell_set_ne (u := .int .u8 7) (p := ⟨g, j, none⟩) hv' hne
                  have X : Fill2Inv w9 ((wr.setCell ⟨g, j, none⟩ (.int .u8 7)).setCell ⟨g', j, none⟩ (.int .u8 9)) 0 5 (some ⟨g, 0, none⟩) (some ⟨g', 0, none⟩) 256 c8 c9 (.int .i64 ((j : Int) + 1)) := by
                    have t1 : Turn (AtB (some ⟨g, 0, none⟩)) wr (wr.setCell ⟨g, j, none⟩ (.int .u8 7)) := Turn.setCell _ ⟨_, rfl, rfl⟩ _
                    have hb1 := hb.turn t1 (fun k hk q => HAB.out k q hk)
                    obtain ⟨g2, e2, -, -, -, -, hset2⟩ := hb1.at_ hjm
                    injection e2 with e2
                    injection e2 with e2
                    subst e2
                    have t2 : Turn (AtB (some ⟨g', 0, none⟩)) (wr.setCell ⟨g, j, none⟩ (.int .u8 7)) ((wr.setCell ⟨g, j, none⟩ (.int .u8 7)).setCell ⟨g', j, none⟩ (.int .u8 9)) := Turn.setCell _ ⟨_, rfl, rfl⟩ _
                    exact ⟨j + 1, by simp, hjm, (hset (.int .u8 7)).turn t2 (fun k hk q => HAB.out k hk q), hset2 _, ht.and ((t1.mono fun k q => .inl q).and (t2.mono fun k q => .inr q))⟩
                  have z0 : decide ((j : Int) < 256) = true := decide_eq_true (by omega)
                  have z0' : decide (j < 256) = true := decide_eq_true hjm
                  clear ha hset ht hb hset' hv'
                  go_wp2_with fail
                  have e5 := wrapS (M := 256) hjm (by decide)
                  go_roundw
                  case rel => (try rw [e5]); first | exact X | ((repeat apply Exists.intro); exact X) | ((repeat apply Exists.intro); refine ⟨X, ?_⟩; rfl)
                  case measure => first | exact meas hjm | exact measW hjm e5
                · have hpr : Pair wr W.heap.size x7 y 32 S7 T7 D7 :=
                    ⟨HP10.out.1.turn ht (fun k hk => hk.elim (fun q => (HX8.out k q).2.1) (fun q => (HX9.out k q).2.1)), HP10.out.2.1.turn ht (fun k hk => hk.elim (fun q => (HX8.out k q).2.2) (fun q => (HX9.out k q).2.2)), HP10.out.2.2⟩
                  have HP11 := Lib.hid hpr
                  have HG11 := Lib.hid (HG10.out.low (ht.low (fun k hk => hk.elim (fun q => (HX8.out k q).1) (fun q => (HX9.out k q).1)) HG10.out.size))
                  have z0 : decide ((j : Int) < 256) = false := decide_eq_false (by omega)
                  have z0' : decide (j < 256) = false := decide_eq_false hjm
                  clear hpr ha hb ht HP10 HG10 HL8 HL9 HX8 HX9 HAB
                  go_wp2_with fail
                  refine (pm_dirty HP11.out.1).mono ?_
                  rintro e w12 ⟨v12, rfl, o12, g12⟩
                  obtain ⟨s12, hs12⟩ : ∃ s12, s12 = wr.heap.size := ⟨_, rfl⟩
                  rw [← hs12] at o12
                  obtain ⟨A12, c12, rfl, -, -⟩ := OI.ri o12
                  have HA12 := Lib.hid (AnyRow.of_oi o12)
                  have HDL := Lib.hid (dirtyL_length S7 T7 32)
                  have HP12 := Lib.hid (HP11.out.keep g12)
                  have HG12 := Lib.hid (HG11.out.trans g12)
                  have HX12 := Lib.hid (show ∀ k, AtB A12 k → W.heap.size ≤ k ∧ ¬ x7.F k ∧ ¬ y.F k from fun k hk => ⟨Nat.le_trans HG11.out.size (by have := (HA12.out.blk k hk).1; omega), fun q => by have := HP11.out.1.lt _ q; have := (HA12.out.blk k hk).1; omega, fun q => by have := HP11.out.2.1.lt _ q; have := (HA12.out.blk k hk).1; omega⟩)
                  clear o12 g12 HP11 HG11 hs12
                  obtain ⟨dl, hdl⟩ : ∃ dl, dl = (dirtyL S7 T7 32).length := ⟨_, rfl⟩
                  rw [← hdl] at HA12 HDL ⊢
                  clear hdl
                  go_wp2_with fail
                  go_loopw [17] (fun t wq => FillInv w12 wq s12 3 A12 dl c12 t) (fun t _ => dl - (intOf t).toNat)
                  case atStart => exact ⟨0, rfl, Nat.zero_le _, HA12.out, Turn.refl _ _⟩
                  case round =>
                    obtain ⟨l, rfl, hl, ha, ht⟩ := hrel
                    by_cases hjm : l < dl
                    · obtain ⟨g, rfl, hg1, hg2, ⟨v, hv⟩, hfz, hset⟩ := ha.at_ hjm
                      have X : FillInv w12 (wr.setCell ⟨g, l, none⟩ (.int .i64 99)) s12 3 (some ⟨g, 0, none⟩) dl c12 (.int .i64 ((l : Int) + 1)) := ⟨l + 1, by simp, hjm, hset _, ht.and (Turn.setCell _ ⟨_, rfl, rfl⟩ _)⟩
                      clear ha hset ht
                      go_wp2_with fail
                      have e5 := wrapS (M := 256) (show l < 256 by have := HDL.out; omega) (by decide)
                      go_roundw
                      case rel => (try rw [e5]); first | exact X | ((repeat apply Exists.intro); exact X) | ((repeat apply Exists.intro); refine ⟨X, ?_⟩; rfl)
                      case measure => first | exact meas hjm | exact measW hjm e5
                    · have X : PlayInv W wr x.p y 32 n0 20 (.int .i64 ((i : Int) + 1)) := ⟨i + 1, by simp, hlt, hlt2, x7, S7, T7, D7, HPY.out, ⟨HP12.out.1.turn ht (fun k hk => (HX12.out k hk).2.1), HP12.out.2.1.turn ht (fun k hk => (HX12.out k hk).2.2), HP12.out.2.2⟩, HG12.out.low (ht.low (fun k hk => (HX12.out k hk).1) HG12.out.size)⟩
                      clear ha ht
                      go_wp2_with fail
                      rw [HPY.out]
                      go_roundw
                      case rel => first | exact X | ((repeat apply Exists.intro); exact X) | ((repeat apply Exists.intro); refine ⟨X, ?_⟩; rfl)
                      case measure => first | exact meas hlt2 | (simp [intOf]; omega)
        · go_wp2_with fail
          go_meet
          exact ⟨⟨_, rfl⟩, HB.out⟩
      · go_wp2_with fail
        go_meet
        exact ⟨⟨_, rfl⟩, HB.out⟩
  case rest =>
    obtain ⟨⟨k, rfl⟩, hb⟩ := hcut
    have HB := Lib.hid hb
    clear hb
    go_wp2_with fail
    refine (like_step HB.out (by decide)).mono ?_
    rintro r w3 ⟨rfl, hb3⟩
    obtain ⟨_, _, _, _, _, _, G⟩ := hb3
    go_wp2_with fail
    refine (lives3 _).mono ?_
    rintro e w10 ⟨rfl, g10⟩
    go_wp2_with fail
    go_ret
    exact ⟨rfl, G.trans g10⟩
end Go.Proofs.Ytnhgfkahmflpgaa
