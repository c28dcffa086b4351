/- The walk of the statement TxnAlone. No statement of the seat is proved here. -/
import Derived.Test.YtlinlmimakealaaZ21
import Derived.Test.YtlinlmimakealaaZ22
import Derived.Deep.CutBlock
import Derived.Deep.DeepCutAuto
namespace Go.Proofs.Ytlinlmimakealaa
open Go.RowKit

/-- Two pairs, apart. -/
def Two (W w : World) (pb l t dl d px pb2 l2 t2 dl2 d2 px2 : Nat) (y y2 : MB) (s : MS) (L : List PT) (s2 : MS) (L2 : List PT) : Prop :=
  ∃ (x x2 : MB) (v v' u u' : Value), x.p = px ∧ x2.p = px2 ∧ PY w W.heap.size pb l t dl d x y s L v v' ∧ PY w W.heap.size pb2 l2 t2 dl2 d2 x2 y2 s2 L2 u u' ∧ Grow W w ∧
    (∀ k, PF t d x y v v' k → ¬ PF t2 d2 x2 y2 u u' k ∧ k ≠ l2 ∧ k ≠ dl2 ∧ k ≠ pb2) ∧ (∀ k, PF t2 d2 x2 y2 u u' k → k ≠ l ∧ k ≠ dl ∧ k ≠ pb)
section
variable {W w w' : World} {pb l t dl d px pb2 l2 t2 dl2 d2 px2 : Nat} {x x2 y y2 : MB} {s s2 s' : MS} {L L2 L' : List PT} {v v' u u' : Value}
theorem Two.keep (h : Two W w pb l t dl d px pb2 l2 t2 dl2 d2 px2 y y2 s L s2 L2) (g : Grow w w') : Two W w' pb l t dl d px pb2 l2 t2 dl2 d2 px2 y y2 s L s2 L2 := by
  obtain ⟨x, x2, v, v', u, u', h1, h2, h3, h4, h5, h6⟩ := h
  exact ⟨x, x2, v, v', u, u', h1, h2, h3.keep g, h4.keep g, h5.trans g, h6⟩
theorem Two.swap (h : Two W w pb l t dl d px pb2 l2 t2 dl2 d2 px2 y y2 s L s2 L2) : Two W w pb2 l2 t2 dl2 d2 px2 pb l t dl d px y2 y s2 L2 s L := by
  obtain ⟨x, x2, v, v', u, u', h1, h2, h3, h4, h5, h6, h7⟩ := h
  exact ⟨x2, x, u, u', v, v', h2, h1, h4, h3, h5, fun k q => ⟨fun z => (h6 k z).1 q, h7 k q⟩, fun k q => (h6 k q).2⟩
theorem Two.left (h3 : PY w W.heap.size pb l t dl d x y s L v v') (h4 : PY w W.heap.size pb2 l2 t2 dl2 d2 x2 y2 s2 L2 u u') (h5 : Grow W w)
    (h6 : ∀ k, PF t d x y v v' k → ¬ PF t2 d2 x2 y2 u u' k ∧ k ≠ l2 ∧ k ≠ dl2 ∧ k ≠ pb2) (h7 : ∀ k, PF t2 d2 x2 y2 u u' k → k ≠ l ∧ k ≠ dl ∧ k ≠ pb)
    (D : Done9 w w' W.heap.size pb l t dl d x.p y s' L' (PF t d x y v v')) : Two W w' pb l t dl d x.p pb2 l2 t2 dl2 d2 x2.p y y2 s' L' s2 L2 := by
  obtain ⟨x', v1, v2, hx, hp, ht, hn⟩ := D
  have hl2 := h4.tx.lg.2.1.1
  have hd2 := h4.rx.lg.2.1.1
  have hb2 := h4.blk.1
  refine ⟨x', x2, v1, v2, u, u', hx, rfl, hp, h4.turn ht fun i q => h6 i q, h5.low (ht.low h3.lb h5.size), fun k q => ?_, h7⟩
  rcases hn k q with q | q
  · exact h6 k q
  · exact ⟨fun z => by have := h4.lt k z; omega, by omega, by omega, by omega⟩
theorem two_does0 {e : Dd} (h : Two W w pb l t dl d px pb2 l2 t2 dl2 d2 px2 y y2 s L s2 L2) (he : e.ok W) :
    Calls Try.prog 24 #[.pointer (some ⟨pb, 0, none⟩), .agg #[.int .i64 0, .int .i64 e.a, .int .i64 e.n, .slice e.B e.bs.length e.c, .slice e.Q e.pk.length e.d]] w fun r w' => r = .returned (.bool true) ∧ ∃ L', Two W w' pb l t dl d px pb2 l2 t2 dl2 d2 px2 y y2 s L' s2 L2 := by
  obtain ⟨x, x2, v, v', u, u', rfl, rfl, h3, h4, h5, h6, h7⟩ := h
  refine (does9_0 h3 h5.size (he.da h5 h3.lb)).mono ?_
  rintro r w' ⟨rfl, D⟩
  exact ⟨rfl, _, Two.left h3 h4 h5 h6 h7 D⟩
theorem two_does4 {e : Dd} (h : Two W w pb l t dl d px pb2 l2 t2 dl2 d2 px2 y y2 s L s2 L2) (he : e.ok W) :
    Calls Try.prog 24 #[.pointer (some ⟨pb, 0, none⟩), .agg #[.int .i64 4, .int .i64 e.a, .int .i64 e.n, .slice e.B e.bs.length e.c, .slice e.Q e.pk.length e.d]] w fun r w' => r = .returned (.bool true) ∧ Two W w' pb l t dl d px pb2 l2 t2 dl2 d2 px2 y y2 (s.store e.a (e.bs.take (min e.bs.length 260))) L s2 L2 := by
  obtain ⟨x, x2, v, v', u, u', rfl, rfl, h3, h4, h5, h6, h7⟩ := h
  refine (does9_4 h3 h5.size (he.da h5 h3.lb)).mono ?_
  rintro r w' ⟨rfl, D⟩
  exact ⟨rfl, Two.left h3 h4 h5 h6 h7 D⟩
end
def AloneInv (W w : World) (pb l t dl d px pb2 l2 t2 dl2 d2 px2 : Nat) (y y2 : MB) (n : Nat) (z : Value) : Prop := ∃ i : Nat, z = .int .i64 (i : Int) ∧ i ≤ n ∧ i ≤ 12 ∧ ∃ s L, Two W w pb l t dl d px pb2 l2 t2 dl2 d2 px2 y y2 s L s []

set_option maxHeartbeats 16000000 in
set_option maxRecDepth 8000 in
theorem law_TxnAlone (A0 : Option Addr) (n c : Nat) (LD : List Dd) (W : World) (hr : RD W A0 n LD) :
    Calls Try.prog 5 #[.slice A0 n c] W fun e w' => e = .returned (.bool true) ∧ Below W.heap.size W w' := by
  have HR := Lib.hid hr
  clear hr
  go_enter Try.func5, Try.ntmps5
  go_wp2_with fail
  refine (begin9 W).mono ?_
  rintro e w1 ⟨pb, l, t, dl, d, x, y, rfl, hp, -, -, -, g1⟩
  have HP := Lib.hid hp
  have G1 := Lib.hid g1
  have hz1 := g1.size
  clear hp g1
  go_wp2_with fail
  refine (begin9 w1).mono ?_
  rintro e w2 ⟨pb2, l2, t2, dl2, d2, x2, y2, rfl, hq, hq1, hq2, hq3, g2⟩
  have HT := Lib.hid (show Two W w2 pb l t dl d x.p pb2 l2 t2 dl2 d2 x2.p y y2 fresh [] fresh [] from by
    have hl := HP.out.tx.lg.2.1.1
    have hd := HP.out.rx.lg.2.1.1
    have hb := HP.out.blk.1
    refine ⟨x, x2, _, _, _, _, rfl, rfl, HP.out.keep g2, ⟨⟨hq.tx.lg, hq.tx.blk, OP.nil _ _, hq.tx.xt, hq.tx.tl, hq.tx.vx, hq.tx.held⟩, ⟨hq.rx.lg, hq.rx.blk, OP.nil _ _, hq.rx.xt, hq.rx.tl, hq.rx.vx, hq.rx.held⟩, hq.ap, hq.xd, hq.yl, hq.blk, hq.xp, hq.yp, fun k q => by have := hq.xb k q; omega, fun k q => by have := hq.yb k q; omega⟩, G1.out.trans g2, fun k q => ?_, fun k q => ?_⟩
    · have q1 := HP.out.lt k q
      exact ⟨fun z => by have := hq.lb k z; omega, by omega, by omega, by omega⟩
    · have q1 := hq.lb k q
      exact ⟨by omega, by omega, by omega⟩)
  obtain ⟨px, hpx⟩ : ∃ px, px = x.p := ⟨_, rfl⟩
  obtain ⟨px2, hpx2⟩ : ∃ px, px = x2.p := ⟨_, rfl⟩
  rw [← hpx, ← hpx2] at HT
  clear hpx hpx2 hq hq1 hq2 hq3 g2 HP G1 hz1
  go_upto_block 0 with fail
  go_cut [5] (fun z wx => (∃ k : Int, z = .int .i64 k) ∧ ∃ s L, Two W wx pb l t dl d px pb2 l2 t2 dl2 d2 px2 y y2 s L s [])
  case first =>
    go_wp2_with fail
    go_loopw [5] (fun z wr => AloneInv W wr pb l t dl d px pb2 l2 t2 dl2 d2 px2 y y2 n z) (fun z _ => 12 - (intOf z).toNat)
    case atStart => exact ⟨0, rfl, Nat.zero_le _, Nat.zero_le _, _, _, HT.out⟩
    case round =>
      obtain ⟨i, rfl, hi, hi2, s, L, htw⟩ := hrel
      have HB := Lib.hid htw
      have HG := Lib.hid (show Grow W wr by obtain ⟨_, _, _, _, _, _, _, _, _, _, g, _⟩ := htw; exact g)
      clear htw
      by_cases hlt : i < n
      · by_cases hlt2 : i < 12
        · obtain ⟨b, o, e0, rfl, hb, hok, c0, c1, c2, c3, c4⟩ := HR.out.at_ hlt
          have HCC := Lib.hid (And.intro c0 (And.intro c1 (And.intro c2 (And.intro c3 c4))))
          replace c0 := HG.out.cell c0; replace c1 := HG.out.cell c1; replace c2 := HG.out.cell c2; replace c3 := HG.out.cell c3; replace c4 := HG.out.cell c4
          have HOK := Lib.hid hok
          clear hok
          obtain ⟨k, hk⟩ : ∃ k, e0.k = k := ⟨_, rfl⟩
          rw [hk] at c0 HCC
          have HK := Lib.hid hk
          clear hk
          by_cases k0 : k = 0
          · subst k0
            go_wp2_with fail
            refine (two_does0 HB.out HOK.out).mono ?_
            rintro r w3 ⟨rfl, L', hb3⟩
            have HB3 := Lib.hid hb3
            obtain ⟨s', hs'⟩ : ∃ z, z = s := ⟨_, rfl⟩
            rw [← hs'] at HB3
            have c0' := (show Grow W w3 by obtain ⟨_, _, _, _, _, _, _, _, _, _, g, _⟩ := hb3; exact g).cell HCC.out.1
            clear hb3 c0 c1 c2 c3 c4 hs'
            obtain ⟨x, x2, v, v', u, u', hx, hx2, hp, hq, hg, hsep⟩ := HB3.out
            subst hx
            subst hx2
            have HP := Lib.hid hp
            have HQ := Lib.hid hq
            have c0 := hp.blk.c5.1
            have HLS := Lib.hid (show (s'.S.drop 0).take 1024 = s'.S by rw [List.drop_zero, List.take_of_length_le (by rw [hp.ok.S]; exact Nat.le_refl _)])
            clear hp hq hsep hg
            go_wp2_with fail
            refine (pm_load HP.out.tx.lg.1 0 1024 (by decide)).mono ?_
            rintro r w4 ⟨A4, k4, rfl, o4, g4⟩
            rw [HLS.out] at o4
            have S4 := Lib.hid o4.sl
            have G4 := Lib.hid g4
            have c1 := (HQ.out.keep g4).blk.c5.1
            clear o4 g4 c0
            go_wp2_with fail
            refine (pm_load (HQ.out.keep G4.out).tx.lg.1 0 1024 (by decide)).mono ?_
            rintro r w5 ⟨A5, k5, rfl, o5, g5⟩
            rw [HLS.out] at o5
            have S5 := Lib.hid o5.sl
            have S45 := Lib.hid (S4.out.keep g5)
            have G5 := Lib.hid (G4.out.trans g5)
            clear o5 g5 c1
            go_wp2_with fail
            refine (same_yes S45.out S5.out rfl).mono ?_
            rintro r w6 ⟨rfl, n6, hw6⟩
            have g6 : Grow w5 w6 := by rw [hw6]; exact (Grow.refl _).drewN n6
            have X : AloneInv W w6 pb l t dl d x.p pb2 l2 t2 dl2 d2 x2.p y y2 n (.int .i64 ((i : Int) + 1)) := ⟨i + 1, by simp, hlt, hlt2, s', L', HB3.out.keep (G5.out.trans g6)⟩
            have HX := Lib.hid X
            clear X hw6 g6
            go_wp2_with fail
            go_roundw
            have e5 : wrap64 ((i : Int) + 1) = (i : Int) + 1 := IntWalk.wrap64_in _ (by omega)
            case rel => (try rw [e5]); first | exact HX.out | ((repeat apply Exists.intro); exact HX.out) | ((repeat apply Exists.intro); refine ⟨HX.out, ?_⟩; rfl)
            case measure => (have e5 : wrap64 ((i : Int) + 1) = (i : Int) + 1 := IntWalk.wrap64_in _ (by omega)); first | exact meas hlt2 | (rw [e5]; exact meas hlt2) | (simp [intOf]; omega) | (rw [e5]; simp [intOf]; omega)
          · have z1 : (k == 0) = false := by rw [beq_eq_false_iff_ne]; exact k0
            by_cases k4 : k = 4
            · subst k4
              go_wp2_with fail
              refine (two_does4 HB.out HOK.out).mono ?_
              rintro r w3 ⟨rfl, hb3⟩
              have HB2 := Lib.hid hb3
              have GG := (show Grow W w3 by obtain ⟨_, _, _, _, _, _, _, _, _, _, g, _⟩ := hb3; exact g)
              obtain ⟨d0, d1, d2', d3, d4⟩ := HCC.out
              replace d0 := GG.cell d0; replace d1 := GG.cell d1; replace d2' := GG.cell d2'; replace d3 := GG.cell d3; replace d4 := GG.cell d4
              clear hb3 c0 c1 c2 c3 c4 GG
              go_wp2_with fail
              refine (two_does4 HB2.out.swap HOK.out).mono ?_
              rintro r w3' ⟨rfl, hb3⟩
              obtain ⟨s', hs'⟩ : ∃ z, z = s.store e0.a (e0.bs.take (min e0.bs.length 260)) := ⟨_, rfl⟩
              obtain ⟨L', hL'⟩ : ∃ z, z = L := ⟨_, rfl⟩
              have HB3 := Lib.hid hb3.swap
              rw [← hs', ← hL'] at HB3
              clear hb3 d0 d1 d2' d3 d4 hs' hL'
              obtain ⟨x, x2, v, v', u, u', hx, hx2, hp, hq, hg, hsep⟩ := HB3.out
              subst hx
              subst hx2
              have HP := Lib.hid hp
              have HQ := Lib.hid hq
              have c0 := hp.blk.c5.1
              have HLS := Lib.hid (show (s'.S.drop 0).take 1024 = s'.S by rw [List.drop_zero, List.take_of_length_le (by rw [hp.ok.S]; exact Nat.le_refl _)])
              clear hp hq hsep hg
              go_wp2_with fail
              refine (pm_load HP.out.tx.lg.1 0 1024 (by decide)).mono ?_
              rintro r w4 ⟨A4, k4, rfl, o4, g4⟩
              rw [HLS.out] at o4
              have S4 := Lib.hid o4.sl
              have G4 := Lib.hid g4
              have c1 := (HQ.out.keep g4).blk.c5.1
              clear o4 g4 c0
              go_wp2_with fail
              refine (pm_load (HQ.out.keep G4.out).tx.lg.1 0 1024 (by decide)).mono ?_
              rintro r w5 ⟨A5, k5, rfl, o5, g5⟩
              rw [HLS.out] at o5
              have S5 := Lib.hid o5.sl
              have S45 := Lib.hid (S4.out.keep g5)
              have G5 := Lib.hid (G4.out.trans g5)
              clear o5 g5 c1
              go_wp2_with fail
              refine (same_yes S45.out S5.out rfl).mono ?_
              rintro r w6 ⟨rfl, n6, hw6⟩
              have g6 : Grow w5 w6 := by rw [hw6]; exact (Grow.refl _).drewN n6
              have X : AloneInv W w6 pb l t dl d x.p pb2 l2 t2 dl2 d2 x2.p y y2 n (.int .i64 ((i : Int) + 1)) := ⟨i + 1, by simp, hlt, hlt2, s', L', HB3.out.keep (G5.out.trans g6)⟩
              have HX := Lib.hid X
              clear X hw6 g6
              go_wp2_with fail
              go_roundw
              have e5 : wrap64 ((i : Int) + 1) = (i : Int) + 1 := IntWalk.wrap64_in _ (by omega)
              case rel => (try rw [e5]); first | exact HX.out | ((repeat apply Exists.intro); exact HX.out) | ((repeat apply Exists.intro); refine ⟨HX.out, ?_⟩; rfl)
              case measure => (have e5 : wrap64 ((i : Int) + 1) = (i : Int) + 1 := IntWalk.wrap64_in _ (by omega)); first | exact meas hlt2 | (rw [e5]; exact meas hlt2) | (simp [intOf]; omega) | (rw [e5]; simp [intOf]; omega)
            · have z2 : (k == 4) = false := by rw [beq_eq_false_iff_ne]; exact k4
              obtain ⟨s', hs'⟩ : ∃ z, z = s := ⟨_, rfl⟩
              obtain ⟨L', hL'⟩ : ∃ z, z = L := ⟨_, rfl⟩
              have HB3 := HB
              rw [← hs', ← hL'] at HB3
              clear hs' hL'
              obtain ⟨x, x2, v, v', u, u', hx, hx2, hp, hq, hg, hsep⟩ := HB3.out
              subst hx
              subst hx2
              have HP := Lib.hid hp
              have HQ := Lib.hid hq
              have c0 := hp.blk.c5.1
              have HLS := Lib.hid (show (s'.S.drop 0).take 1024 = s'.S by rw [List.drop_zero, List.take_of_length_le (by rw [hp.ok.S]; exact Nat.le_refl _)])
              clear hp hq hsep hg
              go_wp2_with fail
              refine (pm_load HP.out.tx.lg.1 0 1024 (by decide)).mono ?_
              rintro r w4 ⟨A4, k4, rfl, o4, g4⟩
              rw [HLS.out] at o4
              have S4 := Lib.hid o4.sl
              have G4 := Lib.hid g4
              have c1 := (HQ.out.keep g4).blk.c5.1
              clear o4 g4 c0
              go_wp2_with fail
              refine (pm_load (HQ.out.keep G4.out).tx.lg.1 0 1024 (by decide)).mono ?_
              rintro r w5 ⟨A5, k5, rfl, o5, g5⟩
              rw [HLS.out] at o5
              have S5 := Lib.hid o5.sl
              have S45 := Lib.hid (S4.out.keep g5)
              have G5 := Lib.hid (G4.out.trans g5)
              clear o5 g5 c1
              go_wp2_with fail
              refine (same_yes S45.out S5.out rfl).mono ?_
              rintro r w6 ⟨rfl, n6, hw6⟩
              have g6 : Grow w5 w6 := by rw [hw6]; exact (Grow.refl _).drewN n6
              have X : AloneInv W w6 pb l t dl d x.p pb2 l2 t2 dl2 d2 x2.p y y2 n (.int .i64 ((i : Int) + 1)) := ⟨i + 1, by simp, hlt, hlt2, s', L', HB3.out.keep (G5.out.trans g6)⟩
              have HX := Lib.hid X
              clear X hw6 g6
              go_wp2_with fail
              go_roundw
              have e5 : wrap64 ((i : Int) + 1) = (i : Int) + 1 := IntWalk.wrap64_in _ (by omega)
              case rel => (try rw [e5]); first | exact HX.out | ((repeat apply Exists.intro); exact HX.out) | ((repeat apply Exists.intro); refine ⟨HX.out, ?_⟩; rfl)
              case measure => (have e5 : wrap64 ((i : Int) + 1) = (i : Int) + 1 := IntWalk.wrap64_in _ (by omega)); first | exact meas hlt2 | (rw [e5]; exact meas hlt2) | (simp [intOf]; omega) | (rw [e5]; simp [intOf]; omega)
        · go_wp2_with fail
          go_meet
          exact ⟨⟨_, rfl⟩, _, _, HB.out⟩
      · go_wp2_with fail
        go_meet
        exact ⟨⟨_, rfl⟩, _, _, HB.out⟩
  case rest =>
    obtain ⟨⟨zz, rfl⟩, s, L, x, x2, v, v', u, u', hx, hx2, hp, hq, hg, h6, h7⟩ := hcut
    subst hx
    subst hx2
    have HP := Lib.hid hp
    have HQ := Lib.hid hq
    have HG := Lib.hid hg
    have HLA := Lib.hid (load_all hp.ok)
    have HLS := Lib.hid (show (s.S.drop 0).take 1024 = s.S by rw [List.drop_zero, List.take_of_length_le (by rw [hp.ok.S]; exact Nat.le_refl _)])
    have HLD := Lib.hid (show lodL s [] 0 1024 = s.S by unfold lodL; rw [(load_all hp.ok).2.2]; rfl)
    have c2 := hp.blk.c5.2.2.1
    have H6 := Lib.hid (show ∀ k, TF t x v k → ¬ PF t2 d2 x2 y2 u u' k ∧ k ≠ l2 ∧ k ≠ dl2 ∧ k ≠ pb2 from fun k q => h6 k (.inl q))
    clear hp hq hg h6 h7
    go_wp2_with fail
    refine (tx_drop HP.out.tx).mono ?_
    rintro r w3 ⟨rfl, h3, t3⟩
    have t3' : Turn (TF t x v) wc w3 := t3.mono fun i e => .inr (.inl e)
    have H3 := Lib.hid h3
    have Q3 := Lib.hid (HQ.out.turn t3' H6.out)
    have B3 := Lib.hid (HP.out.blk1 t3')
    have G3 := Lib.hid (HG.out.low (t3'.low HP.out.xb HG.out.size))
    have c3 := B3.out.c5.2.2.1
    have hpt : ¬ t = pb := fun e => HP.out.xp (.inr (.inl e.symm))
    have X3 := Lib.hid (show ∀ k, x.F k ∨ k = t → TF t x v k from fun k q => q.elim tf_mem (fun e => .inr (.inl e)))
    clear h3 t3 t3' c2
    go_wp2_with fail
    refine (tx_commit H3.out).mono ?_
    rintro r w4 ⟨rfl, v4, h4, t4, n4⟩
    rw [show cmE s [] = 0 from rfl]
    rw [show cmS s [] = s from rfl, show cmL s [] = [] from rfl] at h4
    have t4' : Turn (TF t x v) w3 w4 := t4.mono X3.out
    have H4 := Lib.hid h4
    have Q4 := Lib.hid (Q3.out.turn t4' H6.out)
    have B4 := Lib.hid (B3.out.turn t4' HP.out.xp)
    have G4 := Lib.hid (G3.out.low (t4'.low HP.out.xb G3.out.size))
    have c4 := B4.out.c5.2.2.1
    clear h4 t4 t4' c3 n4
    go_wp2_with fail
    refine (tx_load H4.out 0 1024 (by decide) (by decide)).mono ?_
    rintro r w5 ⟨A5, k5, rfl, o5, g5⟩
    rw [HLA.out.1, HLD.out] at o5
    rw [HLA.out.1, HLA.out.2.1]
    have S5 := Lib.hid o5.sl
    have Q5 := Lib.hid (Q4.out.keep g5)
    have G5 := Lib.hid (G4.out.trans g5)
    have c5 := Q5.out.blk.c5.1
    clear o5 g5 c4
    go_wp2_with fail
    refine (pm_load Q5.out.tx.lg.1 0 1024 (by decide)).mono ?_
    rintro r w6 ⟨A6, k6, rfl, o6, g6⟩
    rw [HLS.out] at o6
    have S6 := Lib.hid o6.sl
    have S56 := Lib.hid (S5.out.keep g6)
    have G6 := Lib.hid (G5.out.trans g6)
    clear o6 g6 c5
    go_wp2_with fail
    refine (same_yes S56.out S6.out rfl).mono ?_
    rintro r w7 ⟨rfl, n7, hw7⟩
    have G7 := Lib.hid (show Grow W w7 by rw [hw7]; exact G6.out.drewN n7)
    clear hw7
    go_wp2_with fail
    refine (lives9 _).mono ?_
    rintro r w8 ⟨rfl, g8⟩
    have G8 := Lib.hid (G7.out.trans g8)
    clear g8
    go_wp2_with fail
    go_ret
    exact ⟨rfl, G8.out⟩
end Go.Proofs.Ytlinlmimakealaa
