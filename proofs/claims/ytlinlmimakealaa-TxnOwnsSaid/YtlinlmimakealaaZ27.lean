/- The walk of the statement TxnOwns. No statement of the seat is proved here. -/
import Derived.Test.YtlinlmimakealaaZ23
import Derived.Test.YtlinlmimakealaaZ26
namespace Go.Proofs.Ytlinlmimakealaa
open Go.RowKit

theorem RD.atz {w : World} {A : Option Addr} {n : Nat} {L : List Dd} (h : RD w A n L) {i : Nat} (hi : i < n) : ∃ (b o : Nat) (e : Dd), A = some ⟨b, o, none⟩ ∧ b < w.heap.size ∧ e.ok w ∧ w.cell? ⟨b, o + i * 5, none⟩ = some (.int .i64 e.k) ∧ w.cell? ⟨b, o + i * 5 + 1, none⟩ = some (.int .i64 e.a) ∧ w.cell? ⟨b, o + i * 5 + 2, none⟩ = some (.int .i64 e.n) ∧ w.cell? ⟨b, o + i * 5 + 3, none⟩ = some (.slice e.B e.bs.length e.c) ∧ w.cell? ⟨b, o + i * 5 + 4, none⟩ = some (.slice e.Q e.pk.length e.d) ∧ e ∈ L := by
  obtain ⟨h1, h2, h3⟩ := h
  obtain ⟨b, o, rfl, hb, hc⟩ := h3 (by omega)
  have hi' : i < L.length := by omega
  exact ⟨b, o, L[i], rfl, hb, h2 _ (List.getElem_mem _), hc i hi' 0 (by omega), hc i hi' 1 (by omega), hc i hi' 2 (by omega), hc i hi' 3 (by omega), hc i hi' 4 (by omega), List.getElem_mem _⟩
def FillPs (w wr : World) (base : Nat) (A : Option Addr) (n c : Nat) (t : Value) : Prop := ∃ k : Nat, t = .int .i64 (k : Int) ∧ k ≤ n ∧ AnyP wr base A n c ∧ Turn (BlkOf A) w wr
/-- The pair at pb; what lies below B0 holds its fixed blocks. -/
theorem Pair9.turn {W w w' : World} {pb l t dl d px B0 : Nat} {y : MB} {F : Nat → Prop} (h : Pair9 W w pb l t dl d px y) (hB : l < B0 ∧ dl < B0 ∧ pb < B0 ∧ W.heap.size ≤ B0) (k : Turn F w w') (C : Nat) (hC : B0 ≤ C) (hF : ∀ i, F i → C ≤ i) (hP : ∀ (x : MB) (s : MS) (L : List PT) (v v' : Value), PY w W.heap.size pb l t dl d x y s L v v' → ∀ i, F i → ¬ PF t d x y v v' i) : Pair9 W w' pb l t dl d px y := by
  obtain ⟨x, s, L, v, v', h1, h2, h3⟩ := h
  obtain ⟨q1, q2, q3, q4⟩ := hB
  exact ⟨x, s, L, v, v', h1, h2.turn k fun i q => ⟨hP x s L v v' h2 i q, by have := hF i q; omega, by have := hF i q; omega, by have := hF i q; omega⟩, h3.low (k.low (fun i q => by have := hF i q; omega) h3.size)⟩
def OwnInv9 (W w : World) (B0 pb l t dl d px : Nat) (y : MB) (n : Nat) (u : Value) : Prop := ∃ i : Nat, u = .int .i64 (i : Int) ∧ i ≤ n ∧ i ≤ 12 ∧ Pair9 W w pb l t dl d px y ∧ B0 ≤ w.heap.size

set_option maxHeartbeats 16000000 in
set_option maxRecDepth 8000 in
theorem law_TxnOwns (A0 : Option Addr) (n c : Nat) (LD : List Dd) (W : World) (hr : RD W A0 n LD) (hz : ∀ e ∈ LD, e.bs.length ≤ 140737488351232) :
    Calls Try.prog 7 #[.slice A0 n c] W fun e w' => e = .returned (.bool true) ∧ Below W.heap.size W w' := by
  have HR := Lib.hid hr
  have HZ := Lib.hid hz
  clear hr hz
  go_enter Try.func7, Try.ntmps7
  go_wp2_with fail
  refine (begin9 W).mono ?_
  rintro e w1 ⟨pb, l, t, dl, d, x, y, rfl, hp, -, -, -, g1⟩
  have HP0 := Lib.hid (show Pair9 W w1 pb l t dl d x.p y from ⟨x, fresh, [], _, _, rfl, hp, g1⟩)
  obtain ⟨px, hpx⟩ : ∃ px, px = x.p := ⟨_, rfl⟩
  rw [← hpx] at HP0
  obtain ⟨B0, hB0⟩ : ∃ z, z = w1.heap.size := ⟨_, rfl⟩
  have HB := Lib.hid (show l < B0 ∧ dl < B0 ∧ pb < B0 ∧ W.heap.size ≤ B0 from by rw [hB0]; exact ⟨hp.tx.lg.2.1.1, hp.rx.lg.2.1.1, hp.blk.1, g1.size⟩)
  have HBZ := Lib.hid (show B0 ≤ w1.heap.size by omega)
  clear hp g1 hpx hB0
  go_upto_block 0 with fail
  go_cut [4] (fun i wx => (∃ k : Int, i = .int .i64 k) ∧ Pair9 W wx pb l t dl d px y)
  case first =>
    go_wp2_with fail
    go_loopw [4] (fun u wr => OwnInv9 W wr B0 pb l t dl d px y n u) (fun u _ => 12 - (intOf u).toNat)
    case atStart => exact ⟨0, rfl, Nat.zero_le _, Nat.zero_le _, HP0.out, HBZ.out⟩
    case round =>
      obtain ⟨i, rfl, hi, hi2, hpr, hbz⟩ := hrel
      have HP := Lib.hid hpr
      have HG := Lib.hid (show Grow W wr by obtain ⟨_, _, _, _, _, _, _, g⟩ := hpr; exact g)
      clear hpr
      by_cases hlt : i < n
      · by_cases hlt2 : i < 12
        · obtain ⟨b, o, e0, rfl, hb, hok, c0, c1, c2, c3, c4, hmem⟩ := HR.out.atz hlt
          replace c0 := HG.out.cell c0; replace c1 := HG.out.cell c1; replace c2 := HG.out.cell c2; replace c3 := HG.out.cell c3; replace c4 := HG.out.cell c4
          have hml := HZ.out e0 hmem
          have HOK := Lib.hid hok
          obtain ⟨m, hm⟩ : ∃ m, m = e0.bs.length := ⟨_, rfl⟩
          rw [← hm] at c3 hml
          have HM := Lib.hid hm
          clear hok hm hmem
          go_upto_region 9 with (fail)
          have R3 := Row.new wr 54 [.int .i64 e0.k, .int .i64 e0.a, .int .i64 e0.n, .slice e0.B m e0.c, .slice e0.Q e0.pk.length e0.d] _ rfl
          have G3 := (Grow.refl wr).alloc (.cells #[.int .i64 e0.k, .int .i64 e0.a, .int .i64 e0.n, .slice e0.B m e0.c, .slice e0.Q e0.pk.length e0.d] 54)
          obtain ⟨w4, hw4⟩ : ∃ w4, w4 = wr.alloc (.cells #[.int .i64 e0.k, .int .i64 e0.a, .int .i64 e0.n, .slice e0.B m e0.c, .slice e0.Q e0.pk.length e0.d] 54) := ⟨_, rfl⟩
          rw [← hw4] at R3 G3 ⊢
          clear hw4
          obtain ⟨d0, d1, d2, d3, d4⟩ := R3.1.c5
          have HR3 := Lib.hid R3
          have HG4 := Lib.hid (HG.out.trans G3)
          have HP4 := Lib.hid (show Pair9 W w4 pb l t dl d px y by
            obtain ⟨x, s, L, v, v', h1, h2, h3⟩ := HP.out
            exact ⟨x, s, L, v, v', h1, h2.keep G3, h3.trans G3⟩)
          have HRB := Lib.hid ((RB.below HOK.out.2.2.1 HG4.out).more HG4.out.size)
          have hz4 := G3.size
          have HG3 := Lib.hid G3
          have hz5 : wr.heap.size < w4.heap.size := HR3.out.1.1
          clear R3 G3 c0 c1 c2 c3 c4
          go_wp2_with (at_builtin; go_loud (refine wpList_appB rfl (.tmp 32) (.tmp 34) rfl w4.heap.size _ [] rfl (OB.nil _ _) _ e0.B _ e0.bs m HM.out rfl HRB.out (by have := HM.out; simp; omega) (Nat.le_refl _) ?_; intro v5 w5 q1 q2 q3 q4; clear q3 q4; rw [List.nil_append] at q1; obtain ⟨A5, c5, e5v, hc5, -, hrb5, -⟩ := q1.form; rw [← HM.out] at e5v hc5; subst e5v; have R5 := HR3.out.keep q2; obtain ⟨d0, d1, d2, d3, d4⟩ := R5.1.c5; have f3 := R5.2 3 (by simp); have l5 := R5.1.1))
          obtain ⟨w6, hw6⟩ : ∃ z, z = w5.setCell ⟨wr.heap.size, 3, none⟩ (.slice A5 m c5) := ⟨_, rfl⟩
          have T6 : Turn (fun k => k = wr.heap.size) w5 w6 := by rw [hw6]; exact Turn.setCell (F := fun k => k = wr.heap.size) _ (p := ⟨wr.heap.size, 3, none⟩) rfl _
          have G6 : Grow wr w6 := by rw [hw6]; exact ((HG3.out.trans q2).setCell (Nat.le_refl _) _)
          rw [← hw6]
          have O6 : OB w6 w4.heap.size (.slice A5 m c5) e0.bs := row_turn (show w5.ownsRow _ _ _ _ _ _ from q1) T6 (fun g hg q => by have := (World.ownsRow.lt q1 g hg).1; omega)
          obtain ⟨A5', c5', e5', -, -, hrb6, -⟩ := id O6.form
          injection e5' with e51 e52 e53
          subst e51
          obtain ⟨x1, s, L, v, v', rfl, hp, hg⟩ := HP.out
          have HPL := Lib.hid hp.lt
          have HO6 := Lib.hid O6
          have HA6 := Lib.hid (show ∀ k, AtB A5 k → w4.heap.size ≤ k ∧ k < w6.heap.size from fun k ⟨p, hp, e⟩ => by subst hp; subst e; exact World.ownsRow.lt O6 p.block rfl)
          have H6 := Lib.hid (hp.keep G6)
          have HG6 := Lib.hid (hg.trans G6)
          have HD6 := Lib.hid (show DA9 w6 (PF t d x1 y v v') e0.n A5 m c5 e0.bs e0.Q e0.pk.length e0.d e0.pk from
            ⟨HOK.out.2.1, hrb6, HM.out.symm, hc5, HOK.out.2.2.2.2.1.keep (hg.trans G6), HOK.out.2.2.2.2.2.1, HOK.out.2.2.2.2.2.2,
              fun h0 p hq k => by have := (HA6.out p.block ⟨p, hq, rfl⟩).1; have := HPL.out _ k; omega,
              fun h0 p hq k => by
                have h1 := hp.lb _ k
                obtain ⟨bb, oo, qq, hb, -⟩ := HOK.out.2.2.2.2.1.2.2 h0
                rw [qq] at hq; injection hq with hq; subst hq
                have h2 : bb < W.heap.size := hb
                have h3 : W.heap.size ≤ bb := h1
                omega⟩)
          have hb6 : B0 ≤ w6.heap.size := Nat.le_trans hbz G6.size
          have hb4 : B0 ≤ w4.heap.size := by omega
          clear hw6 T6 G6 O6 e52 e53 hrb6 hp hg q1 q2 R5 d0 d1 d2 d3 d4 f3 l5 hrb5
          refine (does9 H6.out HG6.out.size HD6.out e0.k).mono ?_
          rintro r w7 ⟨rfl, s', L', x2, v1, v2, hx2, hp7, ht7, hn7⟩
          have H7 := Lib.hid hp7
          have HG7 := Lib.hid (HG6.out.low (ht7.low H6.out.lb HG6.out.size))
          have HA7 := Lib.hid (AnyRow.turn (w := w6) (w' := w7) (base := w4.heap.size) (e := 5) (n := m) (c := c5) ⟨_, by have := HO6.out; unfold OB at this; rw [← HM.out] at this; exact this⟩ ht7 (fun k hk q => by have := (HA6.out k hk).1; have := HPL.out k q; omega))
          have HN7 := Lib.hid (show ∀ k, AtB A5 k → ¬ PF t d x2 y v1 v2 k ∧ B0 ≤ k from fun k hk => ⟨fun q => (hn7 k q).elim (fun q => by have := (HA6.out k hk).1; have := HPL.out k q; omega) (fun q => by have := (HA6.out k hk).2; omega), by have := (HA6.out k hk).1; omega⟩)
          have HX2 := Lib.hid hx2
          have hb7 : B0 ≤ w7.heap.size := Nat.le_trans hb6 ht7.size
          clear hp7 ht7 hn7 hx2
          go_wp2_with fail
          go_loopw [8] (fun u wq => FillInv w7 wq w4.heap.size 5 A5 m c5 u) (fun u _ => m - (intOf u).toNat)
          case atStart => exact ⟨0, rfl, Nat.zero_le _, HA7.out, Turn.refl _ _⟩
          case round =>
            obtain ⟨j, rfl, hj, ha, ht⟩ := hrel
            have HAJ := Lib.hid ha
            have HTJ := Lib.hid ht
            clear ha ht
            by_cases hjm : j < m
            · obtain ⟨g, rfl, hg1, hg2, ⟨vv, hv⟩, hfz, hset⟩ := HAJ.out.at_ hjm
              have HSET := Lib.hid hset
              clear hset
              go_wp2_with fail
              go_roundw
              have e5 : wrap64 ((j : Int) + 1) = (j : Int) + 1 := IntWalk.wrap64_in _ (by omega)
              case rel => (try rw [e5]); exact ⟨j + 1, by simp, hjm, HSET.out _, HTJ.out.set ⟨g, j, none⟩ ⟨⟨g, 0, none⟩, rfl, rfl⟩ _⟩
              case measure => (have e5 : wrap64 ((j : Int) + 1) = (j : Int) + 1 := IntWalk.wrap64_in _ (by omega)); first | exact measF hjm | exact measFW hjm e5
            · have H8 := Lib.hid (H7.out.turn HTJ.out fun k hk => ⟨(HN7.out k hk).1, by have := (HN7.out k hk).2; have := HB.out.1; omega, by have := (HN7.out k hk).2; have := HB.out.2.1; omega, by have := (HN7.out k hk).2; have := HB.out.2.2.1; omega⟩)
              have HG8 := Lib.hid (HG7.out.low (HTJ.out.low (fun k hk => by have := (HN7.out k hk).2; have := HB.out.2.2.2; omega) HG7.out.size))
              have hz8 := HTJ.out.size
              have HLA := Lib.hid (load_all H8.out.ok)
              have c2 := H8.out.blk.c5.2.2.1
              clear HAJ HTJ HA7 HN7 H7
              go_wp2_with fail
              refine (tx_load H8.out.tx 0 1024 (by decide) (by decide)).mono ?_
              rintro r w9 ⟨A9, c9, rfl, o9, g9⟩
              rw [HLA.out.1] at o9
              rw [HLA.out.1, HLA.out.2.1]
              have HA9 := Lib.hid (AnyRow.of_own o9)
              have H9 := Lib.hid (H8.out.keep g9)
              have HG9 := Lib.hid (HG8.out.trans g9)
              have hz9 := g9.size
              clear o9 g9 c2
              go_wp2_with fail
              go_loopw [11] (fun u wq => FillInv w9 wq wr.heap.size 5 A9 1024 c9 u) (fun u _ => 1024 - (intOf u).toNat)
              case atStart => exact ⟨0, rfl, Nat.zero_le _, HA9.out, Turn.refl _ _⟩
              case round =>
                obtain ⟨j, rfl, hj, ha, ht⟩ := hrel
                have HAJ := Lib.hid ha
                have HTJ := Lib.hid ht
                clear ha ht
                by_cases hjm : j < 1024
                · obtain ⟨g, rfl, hg1, hg2, ⟨vv, hv⟩, hfz, hset⟩ := HAJ.out.at_ hjm
                  have HSET := Lib.hid hset
                  have z0 : decide ((j : Int) < 1024) = true := decide_eq_true (by omega)
                  have z0' : decide (j < 1024) = true := decide_eq_true hjm
                  clear hset
                  go_wp2_with fail
                  go_roundw
                  have e5 : wrap64 ((j : Int) + 1) = (j : Int) + 1 := IntWalk.wrap64_in _ (by omega)
                  case rel => (try rw [e5]); exact ⟨j + 1, by simp, hjm, HSET.out _, HTJ.out.set ⟨g, j, none⟩ ⟨⟨g, 0, none⟩, rfl, rfl⟩ _⟩
                  case measure => (have e5 : wrap64 ((j : Int) + 1) = (j : Int) + 1 := IntWalk.wrap64_in _ (by omega)); first | exact measF hjm | exact measFW hjm e5
                · have z0 : decide ((j : Int) < 1024) = false := decide_eq_false (by omega)
                  have z0' : decide (j < 1024) = false := decide_eq_false hjm
                  have HN9 := Lib.hid (show ∀ k, AtB A9 k → ¬ PF t d x2 y v1 v2 k ∧ B0 ≤ k from fun k hk => by
                    have q1 := (HA9.out.blk k hk).1
                    exact ⟨fun q => by have := H8.out.lt k q; omega, by omega⟩)
                  have H10 := Lib.hid (H9.out.turn HTJ.out fun k hk => ⟨(HN9.out k hk).1, by have := (HN9.out k hk).2; have := HB.out.1; omega, by have := (HN9.out k hk).2; have := HB.out.2.1; omega, by have := (HN9.out k hk).2; have := HB.out.2.2.1; omega⟩)
                  have HG10 := Lib.hid (HG9.out.low (HTJ.out.low (fun k hk => by have := (HN9.out k hk).2; have := HB.out.2.2.2; omega) HG9.out.size))
                  have hz10 := HTJ.out.size
                  have c2 := H10.out.blk.c5.2.2.1
                  have hfew := H10.out.tx.held.few
                  clear HAJ HTJ HA9 HN9 H9 H8
                  go_wp2_with fail
                  refine (tx_patches H10.out.tx).mono ?_
                  rintro r w11 ⟨A11, c11, rfl, o11, g11⟩
                  have HA11 := Lib.hid (OP.any o11 rfl)
                  have H11 := Lib.hid (H10.out.keep g11)
                  have HG11 := Lib.hid (HG10.out.trans g11)
                  have hz11 := g11.size
                  obtain ⟨q, hq⟩ : ∃ q, q = L'.length := ⟨_, rfl⟩
                  rw [← hq] at HA11 hfew ⊢
                  clear o11 g11 c2 hq
                  go_wp2_with fail
                  go_loopw [13] (fun u wq => FillPs w11 wq wr.heap.size A11 q c11 u) (fun u _ => q - (intOf u).toNat)
                  case atStart => exact ⟨0, rfl, Nat.zero_le _, HA11.out, Turn.refl _ _⟩
                  case round =>
                    obtain ⟨k, rfl, hk, hany, ht⟩ := hrel
                    have HANY := Lib.hid hany
                    have HTT := Lib.hid ht
                    clear hany ht
                    by_cases hlt3 : k < q
                    · obtain ⟨g, rfl, hg1, hg2, ⟨u1, k1⟩, ⟨u2, k2⟩, f1, f2⟩ := HANY.out.at_ hlt3
                      clear hg1
                      go_wp2_with fail
                      go_roundw
                      have e5 : wrap64 ((k : Int) + 1) = (k : Int) + 1 := IntWalk.wrap64_in _ (by omega)
                      case rel => (try rw [e5]); exact ⟨k + 1, by simp, hlt3, (HANY.out.set g _ _).set g _ _, (HTT.out.set ⟨g, k * 2, none⟩ ⟨⟨g, 0, none⟩, rfl, rfl⟩ _).set ⟨g, k * 2 + 1, none⟩ ⟨⟨g, 0, none⟩, rfl, rfl⟩ _⟩
                      case measure => (have e5 : wrap64 ((k : Int) + 1) = (k : Int) + 1 := IntWalk.wrap64_in _ (by omega)); first | exact measF hlt3 | exact measFW hlt3 e5
                    · have HN11 := Lib.hid (show ∀ k, BlkOf A11 k → ¬ PF t d x2 y v1 v2 k ∧ B0 ≤ k from fun k hk => by
                        have q1 := (HA11.out.blk k hk).1
                        exact ⟨fun q => by have := H10.out.lt k q; omega, by omega⟩)
                      have h12 := H11.out.turn HTT.out fun k hk => ⟨(HN11.out k hk).1, by have := (HN11.out k hk).2; have := HB.out.1; omega, by have := (HN11.out k hk).2; have := HB.out.2.1; omega, by have := (HN11.out k hk).2; have := HB.out.2.2.1; omega⟩
                      have hg12 := HG11.out.low (HTT.out.low (fun k hk => by have := (HN11.out k hk).2; have := HB.out.2.2.2; omega) HG11.out.size)
                      have HX := Lib.hid (show OwnInv9 W wr B0 pb l t dl d x1.p y n (.int .i64 ((i : Int) + 1)) from ⟨i + 1, by simp, hlt, hlt2, ⟨x2, s', L', v1, v2, HX2.out, h12, hg12⟩, by have := HTT.out.size; omega⟩)
                      clear h12 hg12
                      go_wp2_with fail
                      go_roundw
                      have e5 : wrap64 ((i : Int) + 1) = (i : Int) + 1 := IntWalk.wrap64_in _ (by omega)
                      case rel => (try rw [e5]); first | exact HX.out | ((repeat apply Exists.intro); exact HX.out) | ((repeat apply Exists.intro); refine ⟨HX.out, ?_⟩; rfl)
                      case measure => (have e5 : wrap64 ((i : Int) + 1) = (i : Int) + 1 := IntWalk.wrap64_in _ (by omega)); first | exact meas hlt2 | (rw [e5]; exact meas hlt2) | (simp [intOf]; omega) | (rw [e5]; simp [intOf]; omega)
        · go_wp2_with fail
          go_meet
          exact ⟨⟨_, rfl⟩, HP.out⟩
      · go_wp2_with fail
        go_meet
        exact ⟨⟨_, rfl⟩, HP.out⟩
  case rest =>
    obtain ⟨⟨k, rfl⟩, hpr⟩ := hcut
    have HP := Lib.hid hpr
    clear hpr
    go_wp2_with fail
    refine (like9_step HP.out).mono ?_
    rintro e w4 ⟨rfl, h4⟩
    have G4 := Lib.hid (show Grow W w4 by obtain ⟨_, _, _, _, _, _, _, g⟩ := h4; exact g)
    clear h4
    go_wp2_with fail
    refine (lives9 _).mono ?_
    rintro e w5 ⟨rfl, g5⟩
    have GG := Lib.hid (G4.out.trans g5)
    clear g5
    go_wp2_with fail
    go_ret
    exact ⟨rfl, GG.out⟩
end Go.Proofs.Ytlinlmimakealaa
