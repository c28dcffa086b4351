/- TxnWhole: a crash behind step 2. No statement of the seat is proved here. -/
import Derived.Test.YtlinlmimakealaaZ30
namespace Go.Proofs.Ytlinlmimakealaa
open Go.RowKit

set_option maxHeartbeats 32000000 in
set_option maxRecDepth 8000 in
theorem law_whole2 (A0 : Option Addr) (n c : Nat) (LP : List PT) (st : Int) (Q : Option Addr) (q dq : Nat) (pk : List Int) (W : World) (hr : RQ W A0 n LP) (hw : ∀ p ∈ LP, p.wide) (hs1 : -9223372036854775808 ≤ st) (hs2 : st ≤ 9223372036854775807) (hq : RI W Q q pk) (hdq : q ≤ dq) (h5 : (if st < 0 then -(st + 1) else st) % 5 = 2) :
    Calls Try.prog 4 #[.slice A0 n c, .int .i64 st, .slice Q q dq] W fun e w' => e = .returned (.bool true) ∧ Below W.heap.size W w' := by
  have H5K := Lib.hid h5
  clear h5
  have HR := Lib.hid hr
  have HW := Lib.hid hw
  have HQ := Lib.hid hq
  clear hr hq hw
  go_enter Try.func4, Try.ntmps4
  go_wp2_with fail
  refine (begin9 W).mono ?_
  rintro e w1 ⟨pb, l, t, dl, d, x, y, rfl, hp, -, -, -, g1⟩
  have HP := Lib.hid hp
  have G1 := Lib.hid g1
  clear hp g1
  go_wp2_with fail
  refine (begin9 w1).mono ?_
  rintro e w2 ⟨pb2, l2, t2, dl2, d2, x2, y2, rfl, hq, hq1, hq2, -, g2⟩
  have HWW := Lib.hid (begin_ww HP.out G1.out hq g2 hq2 hq1)
  obtain ⟨px, hpx⟩ : ∃ z, z = x.p := ⟨_, rfl⟩
  obtain ⟨py, hpy⟩ : ∃ z, z = y.p := ⟨_, rfl⟩
  obtain ⟨px2, hpx2⟩ : ∃ z, z = x2.p := ⟨_, rfl⟩
  obtain ⟨py2, hpy2⟩ : ∃ z, z = y2.p := ⟨_, rfl⟩
  obtain ⟨B, hB⟩ : ∃ z, z = w2.heap.size := ⟨_, rfl⟩
  rw [← hpx, ← hpy, ← hpx2, ← hpy2, ← hB] at HWW
  clear hpx hpy hpx2 hpy2 hB hq hq1 hq2 g2 HP G1
  have HA0 := Lib.hid (show WhAt W w2 B pb l t py d px pb2 l2 t2 py2 d2 px2 x x2 0 (.slice none 0 0) from ⟨_, [], HWW.out, Nat.le_refl _, fun p hp => by simp at hp, fun p hp => by simp at hp⟩)
  clear HWW
  go_upto_block 0 with fail
  go_cut [9, 10] (fun v t' wx => (∃ z : Int, t' = .int .i64 z) ∧ WhAt W wx B pb l t py d px pb2 l2 t2 py2 d2 px2 x x2 5 v)
  case first =>
    go_wp2_with fail
    go_loopw [9, 10] (fun va t' wr => WhInv W wr B pb l t py d px pb2 l2 t2 py2 d2 px2 x x2 n va t') (fun _ t' _ => 5 - (intOf t').toNat)
    case atStart => exact ⟨0, rfl, Nat.zero_le _, Nat.zero_le _, HA0.out⟩
    case round =>
      obtain ⟨i, rfl, hi, hi2, v0, L, hww, hfew⟩ := hrel
      have HH := Lib.hid hww
      have HF := Lib.hid hfew
      have HG := Lib.hid hww.p.g
      clear hww hfew
      by_cases hlt : i < n
      · by_cases hlt2 : i < 5
        · obtain ⟨b, o, r, hrk, rfl, hb, c0, c1⟩ := HR.out.at_ hlt
          replace c0 := HG.out.cell c0
          replace c1 := HG.out.cell c1
          have HWR := Lib.hid (HW.out r (List.mem_of_getElem? hrk))
          have hrp1 := HWR.out.1
          have hrp2 := HWR.out.2
          clear hrk hb
          have R3 := Row.new wr 37 [.int .i64 r.pos, .string r.dat] _ rfl
          have G3 := (Grow.refl wr).alloc (.cells #[.int .i64 r.pos, .string r.dat] 37)
          have HR3 := Lib.hid R3.1
          have HG3 := Lib.hid G3
          clear R3 G3
          go_upto_if 47 with fail
          go_cut [11] (fun v wx => v = .pointer (some ⟨wr.heap.size, 0, none⟩) ∧ wx.cell? ⟨wr.heap.size, 0, none⟩ = some (.int .i64 r.pos) ∧ wx.cell? ⟨wr.heap.size, 1, none⟩ = some (.string (cutP 40 r).dat) ∧ Grow wr wx ∧ wr.heap.size < wx.heap.size)
          case first =>
            obtain ⟨e0, e1⟩ := HR3.out.c2
            have hl := HR3.out.1
            by_cases hs : 40 < r.dat.size
            · have z1 : decide ((40 : Int) < (r.dat.size : Int)) = true := decide_eq_true (by omega)
              have z2 : decide (40 < r.dat.size) = true := decide_eq_true hs
              have hcut : (cutP 40 r).dat = r.dat.extract 0 40 := by unfold cutP; rw [if_pos hs]
              go_wp2_with fail
              all_goals first | (exfalso; omega) | skip
              go_meet
              have R4 := (Row.new wr 37 [.int .i64 r.pos, .string (r.dat.extract 0 40)] _ rfl).1
              exact ⟨rfl, R4.c2.1, by rw [hcut]; exact R4.c2.2, (Grow.refl wr).alloc _, R4.1⟩
            · have z1 : decide ((40 : Int) < (r.dat.size : Int)) = false := decide_eq_false (by omega)
              have z2 : decide (40 < r.dat.size) = false := decide_eq_false hs
              have hcut : (cutP 40 r).dat = r.dat := by unfold cutP; rw [if_neg hs]
              go_wp2_with fail
              all_goals first | (exfalso; omega) | skip
              go_meet
              exact ⟨rfl, e0, by rw [hcut]; exact e1, HG3.out, hl⟩
          case rest =>
            obtain ⟨rfl, e0, e1, hg, hz⟩ := hcut
            have hrs := cutP_size (m := 40) r
            have hpos : (cutP 40 r).pos = r.pos := rfl
            obtain ⟨r2, hr2⟩ : ∃ z, z = cutP 40 r := ⟨_, rfl⟩
            rw [← hr2] at hrs hpos e1
            rw [← hpos] at hrp1 hrp2 e0
            have HGW := Lib.hid hg
            have HHW := Lib.hid (HH.out.keep hg)
            clear hr2 hpos hg HWR HR3 HG3 c0 c1
            cases hlow : r2.lowB with
            | true =>
              obtain ⟨l1, l2', l3⟩ := PT.lowB_iff.1 hlow
              have HLO := Lib.hid (And.intro hlow hrs)
              have z0 : decide (0 ≤ r2.pos) = true := decide_eq_true l1
              have z1 : decide (r2.pos ≤ 512) = true := decide_eq_true l3
              have e5 : wrap64 (r2.pos + (r2.dat.size : Int)) = r2.pos + (r2.dat.size : Int) := IntWalk.wrap64_in _ (by omega)
              have z2 : decide (r2.pos + (r2.dat.size : Int) ≤ 512) = true := decide_eq_true l2'
              have hwz : Grow wc (wc.alloc (.cells #[.int .i64 r2.pos, .string r2.dat] 37)) := (Grow.refl wc).alloc _
              have HRN := Lib.hid (Rd.new1 r2 (Grow.refl (wc.alloc (.cells #[.int .i64 r2.pos, .string r2.dat] 37))))
              have HOA := Lib.hid (HHW.out.o.keep hwz)
              have hbw : B ≤ (wc.alloc (.cells #[.int .i64 r2.pos, .string r2.dat] 37)).heap.size := (HHW.out.keep hwz).bs.2.2.2.2.2
              have HBW := Lib.hid hbw
              have HFL := Lib.hid (show L.length + 1 ≤ 1000000 by have := HF.out.1; omega)
              have HWZ := Lib.hid hwz
              clear hbw hwz hlow
              go_wp2_with (at_builtin; go_loud (refine wpList_appP rfl (.tmp 69) (.tmp 71) rfl B _ L (by first | rfl | simp) HOA.out _ _ _ [r2] 1 rfl (by first | rfl | simp) HRN.out HFL.out HBW.out ?_; intro v7 w7 q1 q2 q3))
              have HH7 := Lib.hid (HHW.out.app HWZ.out q1 q2 q3)
              have T7 : Turn (fun k => u9.ownBlock = some k) _ w7 := Turn.grown q2 (fun _ h => h)
              have hgo : ¬ u9.ownBlock = some wr.heap.size := fun e => by have := (World.ownsRow.lt HH.out.o _ e).2; omega
              have d0 := T7.cell' (HWZ.out.cell e0) hgo
              have d1 := T7.cell' (HWZ.out.cell e1) hgo
              have cl := HH7.out.p.blk.c5.2.2.1
              have hsS := And.intro cl (And.intro d0 d1)
              have HFS := Lib.hid (show ¬ TF t x v0 wr.heap.size from fun q => by have := HH.out.p.tx.tfl _ q; omega)
              have HXP := Lib.hid (HH7.out.p.xp)
              have hrm : r2.dat.size ≤ 1000 := by have := HLO.out.2; omega
              have HSL := Lib.hid (show stL L r2.pos r2.txt = L ++ [r2] from stL_low HLO.out.1 HLO.out.2 (by have := HF.out.1; omega))
              clear q1 q2 q3 T7 hgo d0 d1 cl e0 e1 HRN HOA HBW HFL HWZ
              go_wp2_with fail
              have kc := fun (u : World) => Lib.run_convert_string_bytes (P := Try.prog) u 9 22 5 r2.dat Try.underlying9 Try.underlying22 Try.underlying5
              refine wp_region_held_drew (S := fun w' => w'.cell? ⟨pb, 2, none⟩ = some (.pointer (some ⟨t, 0, none⟩)) ∧ w'.cell? ⟨wr.heap.size, 0, none⟩ = some (.int .i64 r2.pos) ∧ w'.cell? ⟨wr.heap.size, 1, none⟩ = some (.string r2.dat)) (by kernel_rfl) ?_ (fun hHeld => ?_)
              · exact hsS
              refine wpAnyH_take (i := 0) (oi := _) (v := ?_) rfl (by kernel_rfl) (by kernel_rfl) (by kernel_rfl) (fun _ _ _ h => h) (Or.inl ⟨by rfl, ?_⟩) (by assumption) ?_
              rotate_left
              · (intro w hSw; (try dsimp only at hSw); go_simp; (try with_reducible rfl))
              simp only [Act.put, List.setIfInBounds_toArray]
              refine wpAnyH_take (i := 1) (oi := _) (v := ?_) rfl (by kernel_rfl) (by kernel_rfl) (by kernel_rfl) (fun _ _ _ h => h) (Or.inl ⟨by rfl, ?_⟩) (by assumption) ?_
              rotate_left
              · (intro w hSw; (try dsimp only at hSw); go_simp; (try with_reducible rfl))
              simp only [Act.put]
              refine wpAnyH_take (i := 2) (oi := _) (v := ?_) rfl (by kernel_rfl) (by kernel_rfl) (by kernel_rfl) (fun _ _ _ h => h) (Or.inl ⟨by rfl, ?_⟩) (by assumption) ?_
              rotate_left
              · (intro w hSw; (try dsimp only at hSw); go_simp; (try with_reducible rfl))
              simp only [Act.put]
              refine wpAnyH_take (i := 3) (oi := _) (v := ?_) rfl (by kernel_rfl) (by kernel_rfl) (by kernel_rfl) (fun _ _ _ h => h) (Or.inl ⟨by rfl, ?_⟩) (by assumption) ?_
              rotate_left
              · (intro w hSw; (try dsimp only at hSw); go_simp; (try with_reducible rfl))
              simp only [Act.put]
              refine wpAnyH_take (i := 4) (oi := _) (v := ?_) rfl (by kernel_rfl) (by kernel_rfl) (by kernel_rfl) (fun _ _ _ h => h) (Or.inl ⟨by rfl, ?_⟩) (by assumption) ?_
              rotate_left
              · (intro w hSw; (try dsimp only at hSw); go_simp; (try with_reducible rfl))
              simp only [Act.put]
              refine wpAnyH_take (i := 5) (oi := _) (v := ?_) rfl (by kernel_rfl) (by kernel_rfl) (by kernel_rfl) (fun _ _ _ h => h) (Or.inl ⟨by rfl, ?_⟩) (by assumption) ?_
              rotate_left
              · (intro w hSw; (try dsimp only at hSw); go_simp; (try with_reducible rfl))
              simp only [Act.put]
              refine wpAnyH_take (i := 6) (oi := _) (v := ?_) rfl (by kernel_rfl) (by kernel_rfl) (by kernel_rfl) (fun _ _ _ h => h) (Or.inl ⟨by rfl, ?_⟩) (by assumption) ?_
              rotate_left
              · (intro w hSw; (try dsimp only at hSw); go_simp; (try with_reducible rfl))
              simp only [Act.put]
              refine wpAnyH_take (i := 7) (oi := _) (v := ?_) rfl (by kernel_rfl) (by kernel_rfl) (by kernel_rfl) (fun _ _ _ h => h) (Or.inl ⟨by rfl, ?_⟩) (by assumption) ?_
              rotate_left
              · (intro w hSw; (try dsimp only at hSw); go_simp; (try with_reducible rfl))
              simp only [Act.put]
              refine wpAnyH_ready (rs := [8]) (by kernel_rfl) (by simp) ?_
              refine AllReadyH.cons (o := _) rfl (fun K hK => ?_) AllReadyH.nil
              go_simp
              refine hK.out _ _ (st3w_grow (bytesGrow _ _) (by assumption)) (fun hHeld2 => ?_)
              clear hK K
              refine wpAnyH_ready (rs := [9]) (by kernel_rfl) (by simp) ?_
              refine AllReadyH.cons (o := _) rfl (fun K hK => ?_) AllReadyH.nil
              go_simp
              refine (tp_store_at HH7.out.p r2 ?_ _ _ ?_ ?_).mono ?_; (repeat (first | exact Grow.refl _ | refine Grow.drew ?_ | refine Grow.drewN ?_ _ | refine Grow.trans ?_ (bytesGrow _ _))); (first | exact Nat.le_refl _ | simp); (first | exact (bytes_of _ _ (by omega)).1 | exact (bytes_of _ _ (by omega)).1.drew); rintro e w8 ⟨⟨er, rfl⟩, v8, h8, t8, t9, n8⟩
              have hs8 : w8.cell? ⟨pb, 2, none⟩ = some (.pointer (some ⟨t, 0, none⟩)) ∧ w8.cell? ⟨wr.heap.size, 0, none⟩ = some (.int .i64 r2.pos) ∧ w8.cell? ⟨wr.heap.size, 1, none⟩ = some (.string r2.dat) := ⟨h8.blk.c5.2.2.1, t9.cell' hsS.2.1 HFS.out, t9.cell' hsS.2.2 HFS.out⟩
              refine hK.out _ _ hs8 (fun hHeld5 => ?_)
              clear hK K
              refine wpAnyH_done (by kernel_rfl) ?_ _
              rw [HSL.out] at h8
              have X : WhInv W w8 B pb l t py d px pb2 l2 t2 py2 d2 px2 x x2 n v7 (.int .i64 ((i : Int) + 1)) := ⟨i + 1, by simp, hlt, hlt2, v8, L ++ [r2], HH7.out.store h8 t9 n8, HF.out.app HLO.out.1 HLO.out.2⟩
              have HX := Lib.hid X
              clear X h8 t8 t9 n8 kc hsS hs8
              go_wp2_with fail
              go_roundw
              have e5 : wrap64 ((i : Int) + 1) = (i : Int) + 1 := IntWalk.wrap64_in _ (by omega)
              case rel => (try rw [e5]); first | exact HX.out | ((repeat apply Exists.intro); exact HX.out) | ((repeat apply Exists.intro); refine ⟨HX.out, ?_⟩; rfl)
              case measure => (have e5 : wrap64 ((i : Int) + 1) = (i : Int) + 1 := IntWalk.wrap64_in _ (by omega)); first | exact meas hlt2 | (rw [e5]; exact meas hlt2) | (simp [intOf]; omega) | (rw [e5]; simp [intOf]; omega)
            | false =>
              have HLO := Lib.hid (show ¬ (0 ≤ r2.pos ∧ r2.pos + (r2.dat.size : Int) ≤ 512 ∧ r2.pos ≤ 512) from fun q => by rw [PT.lowB_iff.2 q] at hlow; cases hlow)
              have X : WhInv W wc B pb l t py d px pb2 l2 t2 py2 d2 px2 x x2 n u9 (.int .i64 ((i : Int) + 1)) := ⟨i + 1, by simp, hlt, hlt2, v0, L, HHW.out, by have := HF.out; exact ⟨by have := this.1; omega, this.2⟩⟩
              have HX := Lib.hid X
              clear X hlow
              by_cases p0 : 0 ≤ r2.pos
              · have z0 : decide (0 ≤ r2.pos) = true := decide_eq_true p0
                by_cases p5 : r2.pos ≤ 512
                · have z1 : decide (r2.pos ≤ 512) = true := decide_eq_true p5
                  have ps : ¬ r2.pos + (r2.dat.size : Int) ≤ 512 := fun q => HLO.out ⟨p0, q, p5⟩
                  have e5 : wrap64 (r2.pos + (r2.dat.size : Int)) = r2.pos + (r2.dat.size : Int) := IntWalk.wrap64_in _ (by omega)
                  have z2 : decide (r2.pos + (r2.dat.size : Int) ≤ 512) = false := decide_eq_false ps
                  go_wp2_with fail
                  go_roundw
                  have e5 : wrap64 ((i : Int) + 1) = (i : Int) + 1 := IntWalk.wrap64_in _ (by omega)
                  case rel => (try rw [e5]); first | exact HX.out | ((repeat apply Exists.intro); exact HX.out) | ((repeat apply Exists.intro); refine ⟨HX.out, ?_⟩; rfl)
                  case measure => (have e5 : wrap64 ((i : Int) + 1) = (i : Int) + 1 := IntWalk.wrap64_in _ (by omega)); first | exact meas hlt2 | (rw [e5]; exact meas hlt2) | (simp [intOf]; omega) | (rw [e5]; simp [intOf]; omega)
                · have z1 : decide (r2.pos ≤ 512) = false := decide_eq_false p5
                  go_wp2_with fail
                  go_roundw
                  have e5 : wrap64 ((i : Int) + 1) = (i : Int) + 1 := IntWalk.wrap64_in _ (by omega)
                  case rel => (try rw [e5]); first | exact HX.out | ((repeat apply Exists.intro); exact HX.out) | ((repeat apply Exists.intro); refine ⟨HX.out, ?_⟩; rfl)
                  case measure => (have e5 : wrap64 ((i : Int) + 1) = (i : Int) + 1 := IntWalk.wrap64_in _ (by omega)); first | exact meas hlt2 | (rw [e5]; exact meas hlt2) | (simp [intOf]; omega) | (rw [e5]; simp [intOf]; omega)
              · have z0 : decide (0 ≤ r2.pos) = false := decide_eq_false p0
                go_wp2_with fail
                go_roundw
                have e5 : wrap64 ((i : Int) + 1) = (i : Int) + 1 := IntWalk.wrap64_in _ (by omega)
                case rel => (try rw [e5]); first | exact HX.out | ((repeat apply Exists.intro); exact HX.out) | ((repeat apply Exists.intro); refine ⟨HX.out, ?_⟩; rfl)
                case measure => (have e5 : wrap64 ((i : Int) + 1) = (i : Int) + 1 := IntWalk.wrap64_in _ (by omega)); first | exact meas hlt2 | (rw [e5]; exact meas hlt2) | (simp [intOf]; omega) | (rw [e5]; simp [intOf]; omega)
        · go_wp2_with fail
          go_meet
          exact ⟨⟨_, rfl⟩, v0, L, HH.out, by have := HF.out; exact ⟨by have := this.1; omega, this.2⟩⟩
      · go_wp2_with fail
        go_meet
        exact ⟨⟨_, rfl⟩, v0, L, HH.out, by have := HF.out; exact ⟨by have := this.1; omega, this.2⟩⟩
  case rest =>
    obtain ⟨⟨zz, rfl⟩, v0, L, hww, hfew⟩ := hcut
    obtain ⟨A9, c9, rfl, hc9, r9⟩ := hww.o.rp (by have := hfew.1; omega)
    obtain ⟨n9, hn9⟩ : ∃ z, z = L.length := ⟨_, rfl⟩
    rw [← hn9] at hc9 r9 ⊢
    have HN9 := Lib.hid hn9
    have HH := Lib.hid hww
    have HF := Lib.hid hfew
    have R9 := Lib.hid r9
    have HTF := Lib.hid hww.p.tx.tfl
    clear hww hfew r9 hn9 HR HW
    go_wp2_with fail
    refine (pl_encode R9.out HF.out.wide).mono ?_
    rintro e w3 (⟨hm, A3, c3, rfl, o3, g3⟩ | ⟨hm, rfl, g3⟩)
    case inr => exfalso; rw [(whole_may HF.out.1 HF.out.2.1 HF.out.2.2).1] at hm; cases hm
    have hml := encP_le hm
    obtain ⟨bb, hbb⟩ : ∃ bb, bb = encP L := ⟨_, rfl⟩
    obtain ⟨mb, hmb⟩ : ∃ mb, mb = bb.length := ⟨_, rfl⟩
    have hml2 : mb ≤ 504 := by have := (whole_may HF.out.1 HF.out.2.1 HF.out.2.2).2; rw [← hbb, ← hmb] at this; omega
    rw [← hbb, ← hmb] at o3
    rw [← hbb, ← hmb]
    have HBB := Lib.hid hbb
    have HMB := Lib.hid hmb
    have O3 := Lib.hid o3
    have G3 := Lib.hid g3
    clear o3 g3 hm hbb hmb hml
    by_cases h9 : n9 = 0
    · subst h9
      have GG := Lib.hid (HH.out.p.g.trans G3.out)
      go_wp2_with fail
      refine (lives9 _).mono ?_
      rintro e w7 ⟨rfl, g7⟩
      have GH := Lib.hid (GG.out.trans g7)
      clear g7
      go_wp2_with fail
      go_ret
      exact ⟨rfl, GH.out⟩
    have hne : ((n9 : Int) == 0) = false := by rw [beq_eq_false_iff_ne]; omega
    have HCM := Lib.hid (whole_cm HF.out (by rw [← HN9.out]; exact h9))
    have HP3 := Lib.hid (HH.out.p.keep G3.out)
    have cl := HP3.out.blk.c5.1
    go_wp2_with fail
    refine (tp_load HP3.out).mono ?_
    rintro e w4 ⟨A4, c4, rfl, o4, g4⟩
    have O4 := Lib.hid o4
    have G4 := Lib.hid g4
    have HP4 := Lib.hid (HP3.out.keep g4)
    have c2 := HP4.out.blk.c5.2.2.1
    clear o4 g4 cl
    go_wp2_with fail
    refine (tp_commit HP4.out).mono ?_
    rintro e w5 ⟨rfl, v5, h5, t5, -⟩
    rw [HCM.out.1]
    rw [HCM.out.2] at h5
    have HP5 := Lib.hid h5
    have T5 := Lib.hid t5
    have cl := h5.blk.c5.1
    clear h5 t5 c2
    go_wp2_with fail
    refine (tp_lasts HP5.out).mono ?_
    rintro e w6 ⟨A6, c6, rfl, o6, g6⟩
    have hz3 := G3.out.size
    have hz4 := G4.out.size
    have hBz := HH.out.bs.2.2.2.2.2
    have HXB := Lib.hid (show ∀ k, x2.F k → k < B from fun k q => HH.out.b2 k (tf_mem q))
    have HQ6 := Lib.hid (((HH.out.q.keep (G3.out.trans G4.out)).turn T5.out fun i e => ⟨(HH.out.ap i e).1, (HH.out.ap i e).2.1, (HH.out.ap i e).2.2, HH.out.p.xb i e⟩).keep g6)
    have SB := Lib.hid (((O3.out.sl.keep G4.out).turn' T5.out (O3.out.out HTF.out)).keep g6)
    have SW := Lib.hid ((O4.out.sl.turn' T5.out (O4.out.out fun k q => by have := HTF.out k q; omega)).keep g6)
    have SN := Lib.hid o6.sl
    have NB := Lib.hid (O3.out.out (F := x2.F) fun k q => by have := HXB.out k q; omega)
    have BW := Lib.hid (show 0 < 512 → ∀ p, A4 = some p → p.block < w6.heap.size from fun h0 p hp => by have := O4.out.blt h0 p hp; have := T5.out.size; have := g6.size; omega)
    have BN := Lib.hid (show 0 < 512 → ∀ p, A6 = some p → p.block < w6.heap.size from o6.blt)
    have NW := Lib.hid (O4.out.out (F := x2.F) fun k q => by have := HXB.out k q; omega)
    have NN := Lib.hid (o6.out (F := x2.F) fun k q => by have := HXB.out k q; have := T5.out.size; omega)
    have OW6 := Lib.hid (((HH.out.o.keep (G3.out.trans G4.out)).turn T5.out fun g e z => HH.out.ao g e z).keep g6)
    obtain ⟨A', c', e', -, r6⟩ := OW6.out.rp (by have := HF.out.1; omega)
    injection e' with e1 e2 e3
    subst e1
    obtain ⟨b9, o9, r, hrk, rfl, hb9, d0, d1⟩ := r6.at_ (i := 0) (by rw [← HN9.out]; omega)
    have hrm : r.dat.size ≤ 1000 := by have := HF.out.2.2 r (List.mem_of_getElem? hrk); omega
    have HRK := Lib.hid hrk
    have HB9 := Lib.hid (show ¬ x2.F b9 from fun q => by have := (World.ownsRow.lt OW6.out b9 rfl).1; have := HXB.out b9 q; omega)
    have HD := Lib.hid (show w6.cell? ⟨b9, o9, none⟩ = some (.int .i64 r.pos) ∧ w6.cell? ⟨b9, o9 + 1, none⟩ = some (.string r.dat) from ⟨by simpa using d0, by simpa using d1⟩)
    clear g6 o6 hrk d0 d1 r6 e2 e3 hb9 hz3 hz4 hBz O3 O4 HP3 HP4 HP5 T5 G3 G4 cl HTF
    go_upto_if 123 with fail
    go_cut [1] (fun a wx => ∃ z : Nat, a = .int .i64 (z : Int) ∧ (z : Int) ≤ 9223372036854775807 ∧ z % 5 = 2 ∧ wx = w6)
    case first =>
      by_cases hneg : st < 0
      · have e1 : wrap64 (st + 1) = st + 1 := IntWalk.wrap64_in _ (by omega)
        have e2 : wrap64 (-(st + 1)) = -(st + 1) := IntWalk.wrap64_in _ (by omega)
        have hb : decide (st < 0) = true := decide_eq_true hneg
        go_wp2_with fail
        all_goals first | (exfalso; omega) | (go_meet; exact ⟨(-(st + 1)).toNat, by rw [Int.toNat_of_nonneg (by omega)], by omega, by have := H5K.out; rw [if_pos (by omega)] at this; omega, rfl⟩)
      · have hb : decide (st < 0) = false := decide_eq_false hneg
        go_wp2_with fail
        all_goals first | (exfalso; omega) | (go_meet; exact ⟨st.toNat, by rw [Int.toNat_of_nonneg (by omega)], by omega, by have := H5K.out; rw [if_neg (by omega)] at this; omega, rfl⟩)
    case rest =>
      obtain ⟨z, rfl, hz, hzk, hwc⟩ := hcut
      have hwc' := hwc.symm
      subst hwc'
      have u1 : Int.tmod (z : Int) 5 = 2 := by rw [Int.tmod_eq_emod_of_nonneg (by omega)]; omega
      have u2 : (z : Int) % 5 = 2 := by omega
      have cl := HQ6.out.blk.c5.1
      clear hz hzk
      go_wp2_with fail
      refine (tp_mstore HQ6.out SB.out NB.out 520).mono ?_
      rintro e w7 ⟨⟨er, rfl⟩, h7, t7⟩
      obtain ⟨s1, hs1⟩ : ∃ z, z = qs1 bb := ⟨_, rfl⟩
      have HS1 := Lib.hid hs1
      have HT1 := Lib.hid (show AtQ W w6 w7 pb2 l2 t2 py2 d2 px2 x2 s1 from by rw [hs1]; exact ⟨h7, t7⟩)
      clear h7 t7 cl u1 u2 hs1
      have cl := HT1.out.1.blk.c5.1
      go_wp2_with fail
      refine (tp_flush HT1.out.1 520 (mb : Nat) (by omega) (by omega)).mono ?_
      rintro e v1 ⟨⟨er1, rfl⟩, h8, t8⟩
      have cl2 := h8.blk.c5.1
      have H8 := Lib.hid h8
      have T8 := Lib.hid t8
      clear h8 t8 cl
      go_wp2_with fail
      refine (tp_fence H8.out).mono ?_
      rintro e y1 ⟨rfl, h9', t9⟩
      obtain ⟨s2, hs⟩ : ∃ z, z = (s1.flush 520 (mb : Nat)).fence := ⟨_, rfl⟩
      rw [← hs] at h9'
      have HS2 := Lib.hid hs
      have HT2 := Lib.hid (show AtQ W w6 y1 pb2 l2 t2 py2 d2 px2 x2 s2 from ⟨h9', (HT1.out.2.and T8.out).and t9⟩)
      clear h9' t9 cl2 hs H8 T8
      have cl := HT2.out.1.blk.c5.1
      obtain ⟨s3, hs⟩ : ∃ z, z = s2.store 512 (leB mb 8) := ⟨_, rfl⟩
      have HS3 := Lib.hid hs
      obtain ⟨wp, hwp⟩ : ∃ z, z = y1 := ⟨_, rfl⟩
      have HST : ∀ w8 A8 c8, Own w8 y1.heap.size A8 8 c8 (leB mb 8) → Grow y1 w8 → ∀ w5, Grow w8 w5 → Calls Try.prog 17 #[.pointer (some ⟨px2, 0, none⟩), .int .i64 512, .slice A8 8 c8] w5 fun e w' => (∃ er, e = .returned (.int .i64 er)) ∧ AtQ W w6 w' pb2 l2 t2 py2 d2 px2 x2 s3 := by
        intro w8 A8 c8 o8 g8 w5 g5
        refine (tp_mstore (HT2.out.1.keep (g8.trans g5)) (o8.sl.keep g5) (o8.out (F := x2.F) fun k q => HT2.out.1.tx.tfl k (tf_mem q)) 512).mono ?_
        rintro e w' ⟨⟨er, rfl⟩, h5, t5⟩
        refine ⟨⟨_, rfl⟩, ?_⟩
        rw [HS3.out]
        exact ⟨h5, (HT2.out.2.and (Turn.grow (g8.trans g5) _)).and t5⟩
      have HSS := Lib.hid HST
      clear HST hs hwp
      go_wp2_with fail
      go_region_held3 (fun w' => w'.cell? ⟨pb2, 0, none⟩ = some (.pointer (some ⟨px2, 0, none⟩))) (first | exact cl | exact f1 | exact k1) ((first
        | (go_at_call 20; go_loud (refine (rput8 mb (by omega)).mono ?_; rintro e w4 ⟨A4', c4', rfl, o4, g4⟩; have G4 : Grow y1 w4 := Grow.trans (by (repeat (first | exact Grow.refl _ | refine Grow.drew ?_ | refine Grow.drewN ?_ _))) g4; have o4' := o4.low (B := y1.heap.size) (Nat.le_refl _); have f1 := G4.cell cl))
        | (go_at_call 17; refine (HSS.out w4 A4' c4' o4' G4 _ ?_).mono ?_; (repeat (first | exact Grow.refl _ | refine Grow.drew ?_ | refine Grow.drewN ?_ _)); rintro e y2 ⟨⟨er2, rfl⟩, h9'⟩; have k1 := h9'.1.blk.c5.1)))
      have HT3 := Lib.hid h9'
      clear h9' k1 HSS cl
      have HTB := Lib.hid (show s3 = twk L 2 by
        rw [← qs_is HBB.out HMB.out HRK.out (show 2 < 5 by decide), HS3.out, HS2.out, HS1.out]; rfl)
      go_upto_if 189 with fail
      go_cut [2] (fun v wx => v = .slice Q (min q 200) dq ∧ AtQ W w6 wx pb2 l2 t2 py2 d2 px2 x2 s3)
      case first =>
        by_cases hqq : 200 < q
        · have z1 : decide (200 < q) = true := decide_eq_true hqq
          have z2 : decide ((200 : Int) < (q : Int)) = true := decide_eq_true (by omega)
          have HMIN := Lib.hid (show min q 200 = 200 from Nat.min_eq_right (by omega))
          have hd2 : 200 ≤ dq := by omega
          go_wp2_with fail
          all_goals first | (exfalso; omega) | (go_meet; exact ⟨by rw [HMIN.out], HT3.out⟩)
        · have z1 : decide (200 < q) = false := decide_eq_false hqq
          have z2 : decide ((200 : Int) < (q : Int)) = false := decide_eq_false (by omega)
          have HMIN := Lib.hid (show min q 200 = q from Nat.min_eq_left (by omega))
          go_wp2_with fail
          all_goals first | (exfalso; omega) | (go_meet; exact ⟨by rw [HMIN.out], HT3.out⟩)
      case rest =>
        obtain ⟨rfl, hTx⟩ := hcut
        have HTX := Lib.hid hTx
        clear hTx
        have HQ2 := Lib.hid ((HQ.out.take (k := min q 200) (Nat.min_le_left _ _)).keep HTX.out.1.g)
        have HQF := Lib.hid (show 0 < min q 200 → ∀ p, Q = some p → ¬ x2.F p.block from fun h0 p hp k => by
          have := ri_low HQ.out (by omega) p hp
          have := HTX.out.1.xb _ (tf_mem k)
          omega)
        obtain ⟨pk2, hpk2⟩ : ∃ z, z = pk.take (min q 200) := ⟨_, rfl⟩
        obtain ⟨q2, hq2⟩ : ∃ z, z = min q 200 := ⟨_, rfl⟩
        rw [← hpk2, ← hq2] at HQ2
        rw [← hq2] at HQF ⊢
        have b0 := HTX.out.1.blk.c5.1
        have HWI := Lib.hid (whole_is HF.out.1 HF.out.2.1 HF.out.2.2 pk2 2 (by decide))
        clear hpk2 hq2
        go_wp2_with fail
        refine (tp_crash HTX.out.1 HQ2.out HQF.out).mono ?_
        rintro e w9 ⟨rfl, x', h9', t9, n9'⟩
        have HL9 := Lib.hid h9'
        have HTT := Lib.hid (HTX.out.2.and t9)
        have HNX := Lib.hid n9'
        obtain ⟨s9, hs9⟩ : ∃ s9, s9 = s3.crash pk2 := ⟨_, rfl⟩
        rw [← hs9] at HL9
        rw [← HTB.out, ← hs9] at HWI
        have HZX := Lib.hid HTX.out.2.size
        clear h9' t9 n9' hs9 b0
        rcases HWI.out with ⟨hk, hl, ht⟩ | ⟨hk, hl, ht⟩
        · have b1 := HL9.out.blk.c5.2.1
          go_wp2_with fail
          refine (tp_redo HL9.out).mono ?_
          rintro e w10 ⟨rfl, h10, t10⟩
          rw [hl, show ((([] : List (List PT)).length : Nat) : Int) = 0 from rfl]
          have HL10 := Lib.hid h10
          have S9 := Lib.hid ((SW.out.turn' HTT.out NW.out).turn' t10 fun h0 p hp k => by
            rcases HNX.out _ k with k | k
            · exact NW.out h0 p hp k
            · have := BW.out h0 p hp; have := HZX.out; omega)
          have b2 := h10.blk.c5.1
          have HT := Lib.hid ht
          clear h10 t10 b1 hl ht
          go_wp2_with fail
          refine (tp_lasts HL10.out).mono ?_
          rintro e w11 ⟨A11, c11, rfl, o11, g11⟩
          rw [HT.out] at o11
          have G11 := Lib.hid (HL10.out.g.trans g11)
          have SX := Lib.hid o11.sl
          have S11 := Lib.hid (S9.out.keep g11)
          clear g11 o11 b2
          go_wp2_with fail
          refine (same_yes SX.out S11.out rfl).mono ?_
          rintro e w12 ⟨rfl, n12, hw12⟩
          have G12 := Lib.hid (show Grow W w12 by rw [hw12]; exact G11.out.drewN n12)
          clear hw12
          go_wp2_with fail
          refine (lives9 _).mono ?_
          rintro e w13 ⟨rfl, g13⟩
          have G13 := Lib.hid (G12.out.trans g13)
          clear g13
          go_wp2_with fail
          go_ret
          exact ⟨rfl, G13.out⟩
        · have b1 := HL9.out.blk.c5.2.1
          go_wp2_with fail
          refine (tp_redo HL9.out).mono ?_
          rintro e w10 ⟨rfl, h10, t10⟩
          rw [hl, show ((([L] : List (List PT)).length : Nat) : Int) = 1 from rfl]
          have HL10 := Lib.hid h10
          have S9 := Lib.hid ((SN.out.turn' HTT.out NN.out).turn' t10 fun h0 p hp k => by
            rcases HNX.out _ k with k | k
            · exact NN.out h0 p hp k
            · have := BN.out h0 p hp; have := HZX.out; omega)
          have b2 := h10.blk.c5.1
          have HT := Lib.hid ht
          clear h10 t10 b1 hl ht
          go_wp2_with fail
          refine (tp_lasts HL10.out).mono ?_
          rintro e w11 ⟨A11, c11, rfl, o11, g11⟩
          rw [HT.out] at o11
          have G11 := Lib.hid (HL10.out.g.trans g11)
          have SX := Lib.hid o11.sl
          have S11 := Lib.hid (S9.out.keep g11)
          clear g11 o11 b2
          go_wp2_with fail
          refine (same_yes SX.out S11.out rfl).mono ?_
          rintro e w12 ⟨rfl, n12, hw12⟩
          have G12 := Lib.hid (show Grow W w12 by rw [hw12]; exact G11.out.drewN n12)
          clear hw12
          go_wp2_with fail
          refine (lives9 _).mono ?_
          rintro e w13 ⟨rfl, g13⟩
          have G13 := Lib.hid (G12.out.trans g13)
          clear g13
          go_wp2_with fail
          go_ret
          exact ⟨rfl, G13.out⟩
end Go.Proofs.Ytlinlmimakealaa
