/- The walk of the statement PlogLasts. No statement of the seat is proved here. -/
import Derived.Test.YtncjfljmnkfghaaZ22
import Derived.Test.YtncjfljmnkfghaaZ23
namespace Go.Proofs.Ytncjfljmnkfghaa
open Go.RowKit

theorem OP.out {w : World} {base n c : Nat} {A : Option Addr} {L : List PT} {F : Nat → Prop} (h : OP w base (.slice A n c) L) (hF : ∀ k, F k → k < base) : 0 < n → ∀ p, A = some p → ¬ F p.block := by
  intro _ p hp q
  have q1 := (World.ownsRow.lt h p.block (by rw [hp]; rfl)).1
  have := hF _ q
  omega

set_option maxHeartbeats 16000000 in
set_option maxRecDepth 8000 in
theorem law_PlogLasts (A0 : Option Addr) (n c : Nat) (LD : List D8) (A1 : Option Addr) (n1 c1 : Nat) (L1 : List PT) (Q : Option Addr) (q dq : Nat) (pk : List Int) (W : World) (hr : RD8 W A0 n LD) (hr1 : RQ W A1 n1 L1) (hw1 : ∀ p ∈ L1, p.wide) (hq : RI W Q q pk) (hdq : q ≤ dq) :
    Calls Try.prog 10 #[.slice A0 n c, .slice A1 n1 c1, .slice Q q dq] W fun e w' => e = .returned (.bool true) ∧ Below W.heap.size W w' := by
  have HR := Lib.hid hr
  have HR1 := Lib.hid hr1
  have HW := Lib.hid (fewP_wide (k := 6) (m := 40) hw1)
  have HQ := Lib.hid hq
  clear hr hr1 hw1 hq
  go_enter Try.func10, Try.ntmps10
  go_wp2_with fail
  refine (begin8 W).mono ?_
  rintro e w1 ⟨pb, l, d, x, y, rfl, hp, -, -, -, g1⟩
  have HBO := Lib.hid (show Pairs W w1 pb l d x.p y from ⟨x, fresh, rfl, hp, g1⟩)
  obtain ⟨px, hpx⟩ : ∃ px, px = x.p := ⟨_, rfl⟩
  rw [← hpx] at HBO
  clear hp g1 hpx
  go_upto_block 0 with fail
  go_cut [8] (fun i wx => (∃ k : Int, i = .int .i64 k) ∧ Pairs W wx pb l d px y)
  case first =>
    go_wp2_with fail
    go_loopw [8] (fun t wr => PlayInv8 W wr pb l d px y n 10 t) (fun t _ => 10 - (intOf t).toNat)
    case atStart => exact ⟨0, rfl, Nat.zero_le _, Nat.zero_le _, HBO.out⟩
    case round =>
      obtain ⟨i, rfl, hi, hi2, hbo⟩ := hrel
      have HB := Lib.hid hbo
      have HG := Lib.hid (show Grow W wr by obtain ⟨_, _, _, _, g⟩ := hbo; exact g)
      clear hbo
      by_cases hlt : i < n
      · by_cases hlt2 : i < 10
        · obtain ⟨b, o, e0, rfl, hb, hok, c0, c1, c2, c3, c4⟩ := HR.out.at_ hlt
          replace c0 := HG.out.cell c0; replace c1 := HG.out.cell c1; replace c2 := HG.out.cell c2; replace c3 := HG.out.cell c3; replace c4 := HG.out.cell c4
          have HOK := Lib.hid hok
          clear hok
          go_wp2_with fail
          refine (deed8_step HB.out HOK.out).mono ?_
          rintro r w3 ⟨rfl, hb3⟩
          have X : PlayInv8 W w3 pb l d px y n 10 (.int .i64 ((i : Int) + 1)) := ⟨i + 1, by simp, hlt, hlt2, hb3⟩
          clear c0 c1 c2 c3 c4 hb3
          go_wp2_with fail
          go_roundw
          case rel => first | exact X | ((repeat apply Exists.intro); exact X) | ((repeat apply Exists.intro); refine ⟨X, ?_⟩; rfl)
          case measure => first | exact meas hlt2 | (simp [intOf]; omega)
        · go_wp2_with fail
          go_meet
          exact ⟨⟨_, rfl⟩, HB.out⟩
      · go_wp2_with fail
        go_meet
        exact ⟨⟨_, rfl⟩, HB.out⟩
  case rest =>
    obtain ⟨⟨kk, rfl⟩, x, s, hxp, hpx, hg⟩ := hcut
    have HL0 := Lib.hid (show LP W wc pb l px y.p d x s by rw [← hxp]; exact hpx.lp hg)
    have b0 := HL0.out.blk.c4.1
    clear hpx hg hxp
    go_wp2_with fail
    refine (lp_flush HL0.out 0 1024 (by decide) (by decide)).mono ?_
    rintro e w2 ⟨⟨er, rfl⟩, h2, -⟩
    have HL2 := Lib.hid h2
    have b1 := h2.blk.c4.1
    clear h2 b0
    go_wp2_with fail
    refine (lp_fence HL2.out).mono ?_
    rintro e w3 ⟨rfl, h3, -⟩
    have HST := Lib.hid (flush_all HL0.out.ok)
    obtain ⟨s3, hs3⟩ : ∃ s3, s3 = (s.flush 0 1024).fence := ⟨_, rfl⟩
    rw [← hs3] at h3 HST
    have HL3 := Lib.hid h3
    clear h3 b1 hs3
    go_wp2_with fail
    refine (little_c (HR1.out.keep HL3.out.g)).mono ?_
    rintro e w4 ⟨v4, rfl, o4, g4⟩
    have hfl := fewP_length 6 40 L1
    obtain ⟨K, hK⟩ : ∃ K, K = fewP 6 40 L1 := ⟨_, rfl⟩
    rw [← hK] at o4 HW hfl
    obtain ⟨A4, c4, rfl, hc4, -⟩ := o4.rp (by omega)
    obtain ⟨n4, hn4⟩ : ∃ n4, n4 = K.length := ⟨_, rfl⟩
    rw [← hn4] at o4 hc4 hfl ⊢
    have HN4 := Lib.hid hn4
    have O4 := Lib.hid o4
    have HL4 := Lib.hid (HL3.out.keep g4)
    have b1 := HL4.out.blk.c4.2.1
    clear o4 g4 hK hn4
    go_wp2_with fail
    refine (lp_records HL4.out).mono ?_
    rintro e w5 ⟨A5, c5, R5, rfl, hc5, o5, hR5, g5⟩
    have hm5 := recs_few s3 HL4.out.ok.S
    obtain ⟨m5, hm5e⟩ : ∃ m5, m5 = (lgL s3.S).length := ⟨_, rfl⟩
    rw [← hm5e] at o5 hc5 hm5 ⊢
    have HM5 := Lib.hid hm5e
    have O5 := Lib.hid o5
    have HR5 := Lib.hid hR5
    have HL5 := Lib.hid (HL4.out.keep g5)
    have O4' := Lib.hid (O4.out.keep g5)
    have b2 := HL5.out.blk.c4.2.1
    clear o5 hR5 g5 hm5e b1 O4
    go_wp2_with fail
    refine (lp_append HL5.out (show RP w5 A4 n4 K by obtain ⟨A', c', e, -, r⟩ := O4'.out.rp (by rw [← HN4.out]; omega); injection e with e1 e2 e3; subst e1; rw [HN4.out]; exact r) HW.out).mono ?_
    rintro e w6 ⟨rfl, h6, t6⟩
    have hxl := HL5.out.lt
    have HL6 := Lib.hid h6
    have O5' := Lib.hid (O5.out.turn t6 fun g q => .inl (by have := HL4.out.lt g q; omega))
    have O4'' := Lib.hid (O4'.out.turn t6 fun g hg q => by have := (World.ownsRow.lt O4'.out g hg).1; have := HL3.out.lt g q; omega)
    obtain ⟨s6, hs6⟩ : ∃ s6, s6 = s3.append K := ⟨_, rfl⟩
    rw [← hs6] at HL6
    have HS6 := Lib.hid hs6
    obtain ⟨E, hE⟩ : ∃ E, E = apE s3.S K := ⟨_, rfl⟩
    rw [← hE]
    have HE := Lib.hid hE
    have HST6 := Lib.hid (show s6.still by
      rw [hs6]
      by_cases h0 : apE s3.S K = 0
      · exact (append_is HL5.out.ok (MS.still_cov HST.out) h0).2.1
      · rw [MS.append, if_neg h0]; exact HST.out)
    have b3 := HL6.out.blk.c4.1
    clear h6 t6 hs6 hE b2 O5 O4' hxl
    go_upto_if 58 with fail
    go_cut [2] (fun v wx => v = .slice Q (min q 200) dq ∧ wx = w6)
    case first =>
      by_cases hqq : 200 < q
      · have z1 : decide (200 < q) = true := decide_eq_true hqq
        have z2 : decide ((200 : Int) < (q : Int)) = true := decide_eq_true (by omega)
        have HMIN := Lib.hid (show min q 200 = 200 from Nat.min_eq_right (by omega))
        have hd2 : 200 ≤ dq := by omega
        go_wp2_with fail
        all_goals first | (exfalso; omega) | (go_meet; exact ⟨by rw [HMIN.out], rfl⟩)
      · have z1 : decide (200 < q) = false := decide_eq_false hqq
        have z2 : decide ((200 : Int) < (q : Int)) = false := decide_eq_false (by omega)
        have HMIN := Lib.hid (show min q 200 = q from Nat.min_eq_left (by omega))
        go_wp2_with fail
        all_goals first | (exfalso; omega) | (go_meet; exact ⟨by rw [HMIN.out], rfl⟩)
    case rest =>
      obtain ⟨rfl, hwc⟩ := hcut
      have hwc' := hwc.symm
      subst hwc'
      have HQ2 := Lib.hid ((HQ.out.take (k := min q 200) (Nat.min_le_left _ _)).keep HL6.out.g)
      have HQF := Lib.hid (show 0 < min q 200 → ∀ p, Q = some p → ¬ x.F p.block from fun h0 p hp k => by
        have := ri_low HQ.out (by omega) p hp
        have := HL6.out.xb _ k
        omega)
      obtain ⟨pk2, hpk2⟩ : ∃ z, z = pk.take (min q 200) := ⟨_, rfl⟩
      obtain ⟨q2, hq2⟩ : ∃ z, z = min q 200 := ⟨_, rfl⟩
      rw [← hpk2, ← hq2] at HQ2
      rw [← hq2] at HQF ⊢
      clear hpk2 hq2
      go_wp2_with fail
      refine (lp_crash HL6.out HQ2.out HQF.out).mono ?_
      rintro e w7 ⟨rfl, x', h7, t7, -⟩
      have HL7 := Lib.hid h7
      have hS7 := still_crash HST6.out pk2
      obtain ⟨s7, hs7⟩ : ∃ s7, s7 = s6.crash pk2 := ⟨_, rfl⟩
      rw [← hs7] at HL7 hS7
      have HS7 := Lib.hid hS7
      have O57 := Lib.hid (O5'.out.turn t7 fun g q => .inl (by have := HL4.out.lt g q; omega))
      have O47 := Lib.hid (O4''.out.turn t7 fun g hg q => by have := (World.ownsRow.lt O4''.out g hg).1; have := HL3.out.lt g q; omega)
      have b4 := HL7.out.blk.c4.2.1
      clear h7 t7 hs7 hS7 b3 O5' O4''
      go_wp2_with fail
      refine (lp_records HL7.out).mono ?_
      rintro e w8 ⟨A8, c8, R8, rfl, hc8, o8, hR8, g8⟩
      rw [HS7.out] at hR8 hc8 o8 ⊢
      have HR8 := Lib.hid hR8
      have O8 := Lib.hid o8
      have G8 := Lib.hid (HL7.out.g.trans g8)
      have O58 := Lib.hid (O57.out.keep g8)
      have O48 := Lib.hid (O47.out.keep g8)
      clear o8 hR8 g8 b4 O57 O47
      by_cases h0 : E = 0
      · subst h0
        have happ := append_is HL5.out.ok (MS.still_cov HST.out) HE.out.symm
        have hlog : lgL s6.S = lgL s3.S ++ [K] := by rw [HS6.out]; exact happ.2.2.1
        have hlen : (lgL s6.S).length = m5 + 1 := by rw [hlog, List.length_append, ← HM5.out]; rfl
        rw [hlen] at O8 hc8 ⊢
        rw [hlog] at HR8
        have hR8l : R8.length = m5 + 1 := by have := congrArg List.length HR8.out; rw [List.length_map, List.length_append, ← HM5.out] at this; simpa using this
        obtain ⟨Ax, cx, ex, -, rv8⟩ := O8.out.rv (by omega)
        injection ex with e1 e2 e3
        subst e1
        rw [hR8l] at rv8
        have hR5l : R5.length = m5 := by have := congrArg List.length HR5.out; rw [List.length_map, ← HM5.out] at this; exact this
        obtain ⟨Ay, cy, ey, -, rv5⟩ := O58.out.rv (by omega)
        injection ey with e4 e5 e6
        subst e4
        rw [hR5l] at rv5
        have rvt := rv8.take (k := m5) (by omega)
        obtain ⟨b, o, rw0, hri, rfl, -, cr, op⟩ := rv8.at_ (i := m5) (by omega)
        have hrL : rw0.L = K := by
          have h1 : (R8.map RW.L)[m5]? = some rw0.L := by rw [List.getElem?_map, hri]; rfl
          rw [HR8.out, List.getElem?_append_right (by rw [← HM5.out]; exact Nat.le_refl _), ← HM5.out, Nat.sub_self] at h1
          injection h1 with h1
          exact h1.symm
        have HEQ := Lib.hid (show (R8.take m5).map RW.L = R5.map RW.L by rw [List.map_take, HR8.out, HM5.out, List.take_left, HR5.out])
        have HSM := Lib.hid (show ∀ r ∈ R8.take m5, r.L.length ≤ 60000 from fun r hr => by
          have hr' : r.L ∈ (R8.take m5).map RW.L := List.mem_map_of_mem hr
          rw [HEQ.out, HR5.out] at hr'
          have := (rcL_few _ (lgB s3.S) (Nat.le_refl _) r.L hr').1
          omega)
        obtain ⟨u, Lr⟩ := rw0
        simp only at cr op hrL
        subst hrL
        obtain ⟨Au, cu, rfl, -, p1⟩ := op.rp (by rw [← HN4.out]; omega)
        obtain ⟨Av, cv, ev, -, p2⟩ := O48.out.rp (by rw [← HN4.out]; omega)
        injection ev with e7 e8 e9
        subst e7
        rw [← HN4.out] at p1 p2 cr
        have RVT := Lib.hid rvt
        have RV5 := Lib.hid rv5
        have P1 := Lib.hid p1
        have P2 := Lib.hid p2
        have i1 : m5 ≤ c8 := by omega
        clear happ hlog hlen hR8l hR5l e2 e3 e5 e6 e8 e9 rv8 rv5 rvt op p1 p2 hri
        go_wp2_with fail
        refine (recs_same RVT.out RV5.out HEQ.out (by omega) HSM.out).mono ?_
        rintro e w9 ⟨rfl, g9⟩
        have G9 := Lib.hid (G8.out.trans g9)
        have P1' := Lib.hid (P1.out.keep g9)
        have P2' := Lib.hid (P2.out.keep g9)
        replace cr := g9.cell cr
        clear g9
        go_wp2_with fail
        refine (pats_same P1'.out P2'.out (by omega)).mono ?_
        rintro e w10 ⟨rfl, k10, hw10⟩
        have G10 := Lib.hid (show Grow W w10 by rw [hw10]; exact G9.out.drewN k10)
        clear hw10 cr
        go_wp2_with fail
        refine (lives8 _).mono ?_
        rintro e w11 ⟨rfl, g11⟩
        have GG := Lib.hid (G10.out.trans g11)
        clear g11
        go_wp2_with fail
        go_ret
        exact ⟨rfl, GG.out⟩
      · have h0' : (E != 0) = true := by rw [bne_iff_ne]; exact h0
        have hsame : s6 = s3 := by rw [HS6.out, MS.append, if_neg (by rw [← HE.out]; exact h0)]
        rw [hsame] at HR8 O8 hc8 ⊢
        rw [← HM5.out] at O8 hc8 ⊢
        have hR8l : R8.length = m5 := by have := congrArg List.length HR8.out; rw [List.length_map, ← HM5.out] at this; exact this
        have hR5l : R5.length = m5 := by have := congrArg List.length HR5.out; rw [List.length_map, ← HM5.out] at this; exact this
        obtain ⟨Ax, cx, ex, -, rv8⟩ := O8.out.rv (by omega)
        injection ex with e1 e2 e3
        subst e1
        rw [hR8l] at rv8
        obtain ⟨Ay, cy, ey, -, rv5⟩ := O58.out.rv (by omega)
        injection ey with e4 e5 e6
        subst e4
        rw [hR5l] at rv5
        have RV8 := Lib.hid rv8
        have RV5 := Lib.hid rv5
        have HEQ := Lib.hid (show R8.map RW.L = R5.map RW.L by rw [HR8.out, HR5.out])
        have HSM := Lib.hid (recs_small HR8.out)
        clear hsame hR8l hR5l e2 e3 e5 e6 rv8 rv5 h0
        go_wp2_with fail
        refine (recs_same RV8.out RV5.out HEQ.out (by omega) HSM.out).mono ?_
        rintro e w9 ⟨rfl, g9⟩
        have G9 := Lib.hid (G8.out.trans g9)
        clear g9
        go_wp2_with fail
        refine (lives8 _).mono ?_
        rintro e w11 ⟨rfl, g11⟩
        have GG := Lib.hid (G9.out.trans g11)
        clear g11
        go_wp2_with fail
        go_ret
        exact ⟨rfl, GG.out⟩
end Go.Proofs.Ytncjfljmnkfghaa
