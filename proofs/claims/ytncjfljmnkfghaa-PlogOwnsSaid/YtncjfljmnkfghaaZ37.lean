/- The walk of the statement PlogOwns. No statement of the seat is proved here. -/
import Derived.Test.YtncjfljmnkfghaaZ26
import Derived.Test.YtncjfljmnkfghaaZ36
namespace Go.Proofs.Ytncjfljmnkfghaa
open Go.RowKit

/-- The pair at pb, in some state. -/
def OwnP (W w : World) (pb l d : Nat) (x y : MB) : Prop := ∃ s : MS, PX w W.heap.size pb l d x y s ∧ Grow W w
theorem OwnP.turn {W w w' : World} {pb l d : Nat} {x y : MB} {F : Nat → Prop} (h : OwnP W w pb l d x y) (t : Turn F w w') (B : Nat) (hB : (∀ k, x.F k → k < B) ∧ (∀ k, y.F k → k < B) ∧ l < B ∧ d < B ∧ pb < B ∧ W.heap.size ≤ B) (hF : ∀ k, F k → B ≤ k) : OwnP W w' pb l d x y := by
  obtain ⟨s, h1, h2⟩ := h
  obtain ⟨q1, q2, q3, q4, q5, q6⟩ := hB
  exact ⟨s, h1.turn t fun k hk => ⟨fun z => by have := q1 k z; have := hF k hk; omega, fun z => by have := q2 k z; have := hF k hk; omega, by have := hF k hk; omega, by have := hF k hk; omega, by have := hF k hk; omega⟩, h2.low (t.low (fun k hk => by have := hF k hk; omega) h2.size)⟩
theorem PX.bnd {w : World} {base pb l d : Nat} {x y : MB} {s : MS} (h : PX w base pb l d x y s) (hb : base ≤ w.heap.size) : (∀ k, x.F k → k < w.heap.size) ∧ (∀ k, y.F k → k < w.heap.size) ∧ l < w.heap.size ∧ d < w.heap.size ∧ pb < w.heap.size ∧ base ≤ w.heap.size :=
  ⟨h.lg.1.lt, h.rl.1.lt, h.lg.2.1.1, h.rl.2.1.1, h.blk.1, hb⟩
def OwnInv (W w : World) (pb l d : Nat) (x y : MB) (n : Nat) (t : Value) : Prop := ∃ i : Nat, t = .int .i64 (i : Int) ∧ i ≤ n ∧ i ≤ 4 ∧ OwnP W w pb l d x y
def FillP (w wr : World) (base : Nat) (A : Option Addr) (n c : Nat) (t : Value) : Prop := ∃ k : Nat, t = .int .i64 (k : Int) ∧ k ≤ n ∧ AnyP wr base A n c ∧ Turn (BlkOf A) w wr
def FillW (w wr : World) (base : Nat) (A : Option Addr) (n c : Nat) (t : Value) : Prop := ∃ k : Nat, t = .int .i64 (k : Int) ∧ k ≤ n ∧ AnyW wr base A n c ∧ Turn (fun k => base ≤ k) w wr
def FillR (w wr : World) (base : Nat) (A : Option Addr) (n c : Nat) (g i : Nat) (A' : Option Addr) (n' c' : Nat) (t : Value) : Prop := ∃ k : Nat, t = .int .i64 (k : Int) ∧ k ≤ n' ∧ AnyW wr base A n c ∧ AnyP wr base A' n' c' ∧ wr.cell? ⟨g, i, none⟩ = some (.slice A' n' c') ∧ Turn (fun k => base ≤ k) w wr

set_option maxHeartbeats 16000000 in
set_option maxRecDepth 8000 in
theorem law_PlogOwns (A0 : Option Addr) (n c : Nat) (LL : List (List PT)) (W : World) (hr : RR2 W A0 LL) (hn : n = LL.length) :
    Calls Try.prog 7 #[.slice A0 n c] W fun e w' => e = .returned (.bool true) ∧ Below W.heap.size W w' := by
  have HR := Lib.hid hr
  have HNN := Lib.hid hn
  clear hr hn
  go_enter Try.func7, Try.ntmps7
  go_wp2_with fail
  refine (begin8 W).mono ?_
  rintro e w1 ⟨pb, l, d, x, y, rfl, hp, -, -, -, g1⟩
  have HP0 := Lib.hid (show OwnP W w1 pb l d x y from ⟨_, hp, g1⟩)
  have HB := Lib.hid (hp.bnd g1.size)
  obtain ⟨B, hB⟩ : ∃ z, z = w1.heap.size := ⟨_, rfl⟩
  have HBZ := Lib.hid (show B ≤ w1.heap.size by omega)
  rw [← hB] at HB
  clear hp g1 hB
  go_upto_block 0 with fail
  go_cut [4] (fun t wx => (∃ z : Int, t = .int .i64 z) ∧ OwnP W wx pb l d x y ∧ B ≤ wx.heap.size)
  case first =>
    go_wp2_with fail
    go_loopw [4] (fun t wr => OwnInv W wr pb l d x y n t ∧ B ≤ wr.heap.size) (fun t _ => 4 - (intOf t).toNat)
    case atStart => exact ⟨⟨0, rfl, Nat.zero_le _, Nat.zero_le _, HP0.out⟩, HBZ.out⟩
    case round =>
      obtain ⟨⟨i, rfl, hi, hi2, s, hp, hg⟩, hbz⟩ := hrel
      have HP := Lib.hid hp
      have HG := Lib.hid hg
      clear hp hg
      by_cases hlt : i < n
      · by_cases hlt2 : i < 4
        · obtain ⟨b, o, Ak, ck, Lk, rfl, hb, c0, hok, -, hwk, -⟩ := HR.out.at_ (i := i) (by rw [← HNN.out]; exact hlt)
          replace c0 := HG.out.cell c0
          have hbr : b < wr.heap.size := by have := HG.out.size; omega
          have HOK := Lib.hid hok
          have HWK := Lib.hid (fewP_wide (k := 6) (m := 40) hwk)
          have HBX := Lib.hid (show ¬ x.F b ∧ ¬ y.F b from ⟨fun q => by have := HP.out.xb b q; omega, fun q => by have := HP.out.yb b q; omega⟩)
          clear hok hwk
          obtain ⟨m, hm⟩ : ∃ z, z = Lk.length := ⟨_, rfl⟩
          rw [← hm] at HOK c0
          clear hm
          go_wp2_with fail
          refine (little_c (HOK.out.keep HG.out)).mono ?_
          rintro e w4 ⟨v4, rfl, o4, g4⟩
          have hfl := fewP_length 6 40 Lk
          obtain ⟨K, hK⟩ : ∃ K, K = fewP 6 40 Lk := ⟨_, rfl⟩
          have HK := Lib.hid hK
          rw [← hK] at o4 HWK hfl
          obtain ⟨A4, c4, rfl, hc4, r4⟩ := o4.rp (by omega)
          obtain ⟨n4, hn4⟩ : ∃ n4, n4 = K.length := ⟨_, rfl⟩
          have HN4 := Lib.hid hn4
          have R4 := Lib.hid r4.2.2
          rw [← hn4] at hfl hc4 ⊢
          have HP4 := Lib.hid (HP.out.keep g4)
          have HG4 := Lib.hid (HG.out.trans g4)
          have c1 := g4.cell c0
          have hb4 : B ≤ w4.heap.size := Nat.le_trans hbz g4.size
          clear hK o4 r4 g4 c0 hn4 HP HG
          go_wp2_with (at_builtin; go_loud (refine wpList_appP rfl (.tmp 25) (.tmp 30) rfl w4.heap.size _ [] rfl (OP.nil _ _) w4.heap.size _ _ K n4 HN4.out rfl R4.out (by simp; have := HN4.out; omega) (Nat.le_refl _) ?_; intro v5 w5 q1 q2 q3; clear q3; rw [List.nil_append] at q1; replace q2 : Grow w4 w5 := (Below.refl _ _).grown q2 (Nat.le_refl _) (fun k hk => by cases hk); have p1 := q2.cell HP4.out.blk.c4.2.1))
          obtain ⟨A5, c5, rfl, hc5, r5⟩ := q1.rp (by have := HN4.out; omega)
          have HO5 := Lib.hid q1
          have R5 := Lib.hid r5
          rw [← HN4.out] at R5 HO5 ⊢
          have HP5 := Lib.hid (HP4.out.keep q2)
          have HG5 := Lib.hid (HG4.out.trans q2)
          have c2 := q2.cell c1
          have hz5 := q2.size
          have HOL := Lib.hid (show ∀ k, BlkOf A5 k → w4.heap.size ≤ k from fun k hk => by
            obtain ⟨p, rfl, rfl⟩ := hk
            exact (World.ownsRow.lt HO5.out p.block rfl).1)
          have HXY := Lib.hid (show ∀ k, x.F k ∨ y.F k → k < w4.heap.size from fun k q => q.elim (HP4.out.lg.1.lt k) (HP4.out.rl.1.lt k))
          clear q1 q2 r5 c1 R4
          refine (pl_append HP5.out.lg R5.out HWK.out).mono ?_
          rintro e w6 ⟨rfl, h6, t6⟩
          have H6 := Lib.hid h6
          have T6 := Lib.hid t6
          have g6 : Grow W w6 := HG5.out.low (t6.low HP5.out.xb HG5.out.size)
          have HG6 := Lib.hid g6
          have RL6 := Lib.hid (HP5.out.rl1 t6)
          have HO6 := Lib.hid (HO5.out.turn t6 fun g hg q => by have := (World.ownsRow.lt HO5.out g hg).1; have := HXY.out g (.inl q); omega)
          have c3 := t6.cell' c2 HBX.out.1
          have p3 := (HP5.out.blk1 t6).c4.2.2.2
          have hz6 := t6.size
          clear h6 t6 g6 p1 c2
          go_wp2_with fail
          go_region_held3 (fun w' => w'.cell? ⟨pb, 3, none⟩ = some (.pointer (some ⟨d, 0, none⟩)) ∧ w'.cell? ⟨b, o + i, none⟩ = some (.slice Ak m ck)) (first | exact ⟨p3, c3⟩ | exact hsA | exact hsB) ((first
            | (go_at_call 24; go_loud (refine (little_c ((HOK.out.keep HG6.out).keep ?_)).mono ?_; (repeat (first | exact Grow.refl _ | refine Grow.drew ?_ | refine Grow.drewN ?_ _)); rintro e w7 ⟨v7, rfl, o7, g7'⟩; have g7 : Grow w6 w7 := Grow.trans (by (repeat (first | exact Grow.refl _ | refine Grow.drew ?_ | refine Grow.drewN ?_ _))) g7'; have hsA := And.intro (g7.cell p3) (g7.cell c3); rw [← HK.out] at o7; obtain ⟨A7, c7, rfl, -, r7⟩ := o7.rp (by have := HN4.out; omega); have R7 := Lib.hid r7; clear o7 r7 g7'))
            | (go_at_call 26; go_loud (refine (rl_append ((RL6.out.keep g7).keep ?_) (R7.out.keep ?_) HWK.out).mono ?_; (repeat (first | exact Grow.refl _ | refine Grow.drew ?_ | refine Grow.drewN ?_ _)); rintro e w8 ⟨rfl, h8, t8'⟩; have t8 : Turn y.F w7 w8 := (Turn.grow (show Grow w7 _ by (repeat (first | exact Grow.refl _ | refine Grow.drew ?_ | refine Grow.drewN ?_ _))) y.F).and t8'; have hsB : w8.cell? ⟨pb, 3, none⟩ = some (.pointer (some ⟨d, 0, none⟩)) ∧ w8.cell? ⟨b, o + i, none⟩ = some (.slice Ak m ck) := ⟨t8.cell' hsA.1 HP4.out.yp, t8.cell' hsA.2 HBX.out.2⟩; clear t8'))))
          all_goals
            have T8 := Lib.hid ((Turn.grow g7 y.F).and t8)
            have HP8 := Lib.hid (HP5.out.both H6.out T6.out h8 T8.out)
            have HG8 := Lib.hid (HG6.out.low (T8.out.low HP5.out.yb HG6.out.size))
            have c5 := hsB.2
            have R8 := Lib.hid ((R5.out.turn T6.out fun _ p hp q => by have := HOL.out _ ⟨p, hp, rfl⟩; have := HXY.out _ (.inl q); omega).turn T8.out fun _ p hp q => by have := HOL.out _ ⟨p, hp, rfl⟩; have := HXY.out _ (.inr q); omega)
            have HO8 := Lib.hid (HO6.out.turn T8.out fun g hg q => by have := (World.ownsRow.lt HO6.out g hg).1; have := HXY.out g (.inr q); omega)
            clear h8 t8 g7 hsA hsB p3 c3
            go_wp2_with fail
            refine (little_c (HOK.out.keep HG8.out)).mono ?_
            rintro e w9 ⟨v9, rfl, o9, g9⟩
            rw [← HK.out] at o9
            obtain ⟨A9, c9, rfl, -, r9⟩ := o9.rp (by have := HN4.out; omega)
            rw [← HN4.out] at r9 ⊢
            have R9 := Lib.hid r9
            have R89 := Lib.hid (R8.out.keep g9)
            have HO9 := Lib.hid (HO8.out.keep g9)
            have HP9 := Lib.hid (HP8.out.keep g9)
            have HG9 := Lib.hid (HG8.out.trans g9)
            have hz9 := g9.size
            clear o9 r9 g9 c5
            go_wp2_with fail
            refine (pats_same R89.out R9.out (by omega)).mono ?_
            rintro e w10 ⟨rfl, n10, hw10⟩
            have g10 : Grow w9 w10 := by rw [hw10]; exact (Grow.refl _).drewN n10
            have HO10 := Lib.hid ((HO9.out.keep g10).any HN4.out)
            have HP10 := Lib.hid (show OwnP W w10 pb l d x y from ⟨_, HP9.out.keep g10, HG9.out.trans g10⟩)
            have hb10 : B ≤ w10.heap.size := by have := HG4.out.size; have := T8.out.size; have := g10.size; omega
            have HBN := Lib.hid (HP4.out.bnd HG4.out.size)
            clear g10 hw10
            go_wp2_with fail
            go_loopw [7] (fun t wr => FillP w10 wr w4.heap.size A5 n4 c5 t) (fun t _ => n4 - (intOf t).toNat)
            case atStart => exact ⟨0, rfl, Nat.zero_le _, HO10.out, Turn.refl _ _⟩
            case round =>
              obtain ⟨k, rfl, hk, hany, ht⟩ := hrel
              have HANY := Lib.hid hany
              have HTT := Lib.hid ht
              clear hany ht
              by_cases hlt3 : k < n4
              · obtain ⟨g, rfl, hg1, hg2, ⟨u1, k1⟩, ⟨u2, k2⟩, f1, f2⟩ := HANY.out.at_ hlt3
                clear hg1
                go_wp2_with fail
                go_roundw
                have e5 : wrap64 ((k : Int) + 1) = (k : Int) + 1 := IntWalk.wrap64_in _ (by omega)
                case rel => (try rw [e5]); exact ⟨k + 1, by simp, hlt3, (HANY.out.set g _ _).set g _ _, (HTT.out.set ⟨g, k * 2, none⟩ ⟨⟨g, 0, none⟩, rfl, rfl⟩ _).set ⟨g, k * 2 + 1, none⟩ ⟨⟨g, 0, none⟩, rfl, rfl⟩ _⟩
                case measure => (have e5 : wrap64 ((k : Int) + 1) = (k : Int) + 1 := IntWalk.wrap64_in _ (by omega)); first | exact measF hlt3 | exact measFW hlt3 e5
              · have X : OwnInv W wr pb l d x y n (.int .i64 ((i : Int) + 1)) ∧ B ≤ wr.heap.size := ⟨⟨i + 1, by simp, hlt, hlt2, HP10.out.turn HTT.out _ HBN.out HOL.out⟩, Nat.le_trans hb10 HTT.out.size⟩
                have HX := Lib.hid X
                clear X
                go_wp2_with fail
                go_roundw
                have e5 : wrap64 ((i : Int) + 1) = (i : Int) + 1 := IntWalk.wrap64_in _ (by omega)
                case rel => (try rw [e5]); first | exact HX.out | ((repeat apply Exists.intro); exact HX.out) | ((repeat apply Exists.intro); refine ⟨HX.out, ?_⟩; rfl)
                case measure => (have e5 : wrap64 ((i : Int) + 1) = (i : Int) + 1 := IntWalk.wrap64_in _ (by omega)); first | exact meas hlt2 | (simp [intOf]; omega) | (rw [e5]; simp [intOf]; omega)
        · go_wp2_with fail
          go_meet
          exact ⟨⟨_, rfl⟩, ⟨s, HP.out, HG.out⟩, hbz⟩
      · go_wp2_with fail
        go_meet
        exact ⟨⟨_, rfl⟩, ⟨s, HP.out, HG.out⟩, hbz⟩
  case rest =>
    obtain ⟨⟨zz, rfl⟩, ⟨s, hp, hg⟩, hbz⟩ := hcut
    have HP := Lib.hid hp
    have HG := Lib.hid hg
    have p1 := hp.blk.c4.2.1
    have HF := Lib.hid (recs_few s hp.ok.S)
    clear hp hg
    go_wp2_with fail
    refine (pl_records HP.out.lg).mono ?_
    rintro e w2 ⟨v2, R2, rfl, o2, hR2, g2⟩
    have hl2 : R2.length ≤ 63 := by rw [← List.length_map (f := RW.L), hR2]; exact HF.out
    obtain ⟨A2, c2, rfl, hc2, -⟩ := o2.rv (by omega)
    obtain ⟨n2, hn2⟩ : ∃ z, z = R2.length := ⟨_, rfl⟩
    rw [← hn2] at o2 hl2 hc2 ⊢
    have HW2 := Lib.hid (o2.any hn2 (recs_small hR2))
    have HP2 := Lib.hid (show OwnP W w2 pb l d x y from ⟨s, HP.out.keep g2, HG.out.trans g2⟩)
    obtain ⟨C, hC⟩ : ∃ z, z = wc.heap.size := ⟨_, rfl⟩
    have HBC := Lib.hid (show (∀ k, x.F k → k < C) ∧ (∀ k, y.F k → k < C) ∧ l < C ∧ d < C ∧ pb < C ∧ W.heap.size ≤ C by rw [hC]; exact HP.out.bnd HG.out.size)
    rw [← hC] at HW2
    clear o2 hR2 g2 hn2 hC p1
    go_wp2_with fail
    go_loopw [9] (fun t wr => FillW w2 wr C A2 n2 c2 t) (fun t _ => n2 - (intOf t).toNat)
    case atStart => exact ⟨0, rfl, Nat.zero_le _, HW2.out, Turn.refl _ _⟩
    case round =>
      obtain ⟨i, rfl, hi, hany, ht⟩ := hrel
      have HANY := Lib.hid hany
      have HTT := Lib.hid ht
      clear hany ht
      by_cases hlt : i < n2
      · obtain ⟨g, A', n', c', rfl, hg1, hg2, k0, f0, hn', hp', hbl⟩ := HANY.out.at_ hlt
        have HPP := Lib.hid hp'
        have HBL := Lib.hid hbl
        have HK0 := Lib.hid k0
        clear hp' hbl k0 f0 hg2
        go_wp2_with fail
        go_loopw [10] (fun t wr => FillR w2 wr C (some ⟨g, 0, none⟩) n2 c2 g i A' n' c' t) (fun t _ => n' - (intOf t).toNat)
        case atStart => exact ⟨0, rfl, Nat.zero_le _, HANY.out, HPP.out, HK0.out, HTT.out⟩
        case round =>
          obtain ⟨k, rfl, hk, hany1, hp1, k1, ht1⟩ := hrel
          have HANY1 := Lib.hid hany1
          have HP1 := Lib.hid hp1
          have HK1 := Lib.hid k1
          have HTT1 := Lib.hid ht1
          obtain ⟨g_, _, _, _, eg, hgs, hgz, -, fg, -⟩ := hany1.at_ hlt
          injection eg with eg
          injection eg with eg
          subst eg
          clear hany1 hp1 ht1
          by_cases hlt4 : k < n'
          · obtain ⟨g', rfl, hg3, hg4, ⟨u1, q1⟩, ⟨u2, q2⟩, f1, f2⟩ := HP1.out.at_ hlt4
            have hne : g ≠ g' := fun e => HBL.out ⟨_, rfl, e.symm⟩
            have HNG := Lib.hid (show ¬ BlkOf (some ⟨g, 0, none⟩) g' from fun ⟨p, hp, e⟩ => hne (by injection hp with hp; subst hp; exact e))
            go_wp2_with fail
            go_roundw
            have e5 : wrap64 ((k : Int) + 1) = (k : Int) + 1 := IntWalk.wrap64_in _ (by omega)
            case rel => (try rw [e5]); exact ⟨k + 1, by simp, hlt4, (HANY1.out.set HNG.out _ _).set HNG.out _ _, (HP1.out.set g' _ _).set g' _ _, ((Turn.setCell (F := fun j => j = g') _ (p := ⟨g', k * 2, none⟩) rfl _).and (Turn.setCell (F := fun j => j = g') _ (p := ⟨g', k * 2 + 1, none⟩) rfl _)).cell' HK1.out hne, (HTT1.out.set _ hg3 _).set _ hg3 _⟩
            case measure => (have e5 : wrap64 ((k : Int) + 1) = (k : Int) + 1 := IntWalk.wrap64_in _ (by omega)); first | exact measF hlt4 | exact measFW hlt4 e5
          · go_wp2_with fail
            go_roundw
            have e5 : wrap64 ((i : Int) + 1) = (i : Int) + 1 := IntWalk.wrap64_in _ (by omega)
            case rel => (try rw [e5]); exact ⟨i + 1, by simp, hlt, HANY1.out.empty i, HTT1.out.set _ hgs _⟩
            case measure => (have e5 : wrap64 ((i : Int) + 1) = (i : Int) + 1 := IntWalk.wrap64_in _ (by omega)); first | exact measF hlt | exact measFW hlt e5
      · obtain ⟨s3, hp3, hg3⟩ := HP2.out.turn HTT.out C HBC.out (fun k hk => hk)
        have HP3 := Lib.hid hp3
        have HG3 := Lib.hid hg3
        clear hp3 hg3
        go_wp2_with fail
        refine (like8 HP3.out).mono ?_
        rintro e w4 ⟨rfl, g4⟩
        have HG4 := Lib.hid (HG3.out.trans g4)
        clear g4
        go_wp2_with fail
        refine (lives8 _).mono ?_
        rintro e w5 ⟨rfl, g5⟩
        have HG5 := Lib.hid (HG4.out.trans g5)
        clear g5
        go_wp2_with fail
        go_ret
        exact ⟨rfl, HG5.out⟩
end Go.Proofs.Ytncjfljmnkfghaa
