/- The walk of the statement RegionFenced. No statement of the seat is proved here. -/
import Derived.Test.YtdlcpfgogjcciaaGreatZ27
namespace Go.Proofs.YtdlcpfgogjcciaaGreat
open Go.RowKit Go.Great

set_option maxHeartbeats 16000000 in
set_option maxRecDepth 8000 in
theorem law_RegionFenced (A0 : Option Addr) (n0 c0 : Nat) (L : List Dq) (p : PK) (A : Option Addr) (k cc : Nat) (W : World) (hd : DD W A0 n0 L) (hp : p.ok) (hk : k = p.names.length) (hr : RS W A k p.names) :
    Calls Tryz.prog 4 #[.slice A0 n0 c0, .agg (p.cells (.slice A k cc)).toArray] W fun e w' => e = .returned (.bool true) ∧ Below W.heap.size W w' := by
  obtain ⟨w1, xb, hw1, hxb, b1, g1, hl1⟩ := boxedP W p (.slice A k cc)
  have HDD := Lib.hid hd
  have HP := Lib.hid hp
  have HK := Lib.hid hk
  have HR := Lib.hid hr
  have HX1 := Lib.hid b1
  have HG1 := Lib.hid g1
  have HXW := Lib.hid (And.intro (Nat.le_of_eq hxb.symm) hl1)
  clear hd hp hk hr b1 g1 hl1
  obtain ⟨P0, hP0⟩ : ∃ z, z = (p.cells (.slice A k cc)).toArray := ⟨_, rfl⟩
  rw [← hP0]
  go_enter Tryz.func4, Tryz.ntmps4
  go_upto_region 0 with (fail)
  refine wp_region_list ?_
  refine wpList_boxTo rfl 39 (.tmp 1) rfl (some 3) rfl xb hxb.symm P0 rfl ?_
  rw [hP0, show (p.cells (.slice A k cc)).toArray = #[.int .i64 p.kind, .int .i64 p.client, .int .i64 p.epoch, .int .i64 p.seq, .int .i64 p.op, .int .i64 p.at_, .int .i64 p.n, .string p.data, .int .i64 p.old, .int .i64 p.new, .int .i64 p.ckind, .string p.path, .string p.path2, .int .i64 p.flags, .int .i64 p.cfd, .int .i64 p.coff, .int .i64 p.cn, .string p.cdata, .int .i64 p.ino, .int .i64 p.errno, .int .i64 p.rerrno, .int .i64 p.rfd, .string p.rdata, .slice A k cc, .int .i64 p.ikind, .int .i64 p.ilinks, .int .i64 p.isize, .int .i64 p.wrote, .int .i64 p.nkind, .int .i64 p.nlinks, .int .i64 p.nsize, .int .i64 p.b0, .int .i64 p.b1, .int .i64 p.b2, .int .i64 p.b3, .int .i64 p.o0, .int .i64 p.o1, .int .i64 p.o2, .int .i64 p.o3, .int .i64 p.o4, .int .i64 p.o5, .int .i64 p.o6, .int .i64 p.o7] from rfl, ← hw1]
  clear hw1 hxb hP0 P0
  go_wp2_with fail
  refine (begin20 w1).mono ?_
  rintro r w2 ⟨pb, rfl, hB⟩
  have HB0 := Lib.hid hB
  clear hB
  go_upto_block 0 with fail
  go_cut [6] (fun i wx => (∃ k : Int, i = .int .i64 k) ∧ ∃ s, B20 w1 wx pb s)
  case first =>
    go_wp2_with fail
    go_loopw [6] (fun t wr => LInv w1 wr pb n0 15 t) (fun t _ => 15 - (intV t).toNat)
    case atStart => exact ⟨0, rfl, Nat.zero_le _, Nat.zero_le _, _, HB0.out⟩
    case round =>
      obtain ⟨i, rfl, hi, hi2, s, hbo⟩ := hrel
      have HB := Lib.hid hbo
      have HG := Lib.hid (show Grow w1 wr by obtain ⟨_, _, _, _, _, h⟩ := hbo; exact h.grow)
      clear hbo
      by_cases hlt : i < n0
      · by_cases hlt2 : i < 15
        · obtain ⟨b, o, e, rfl, hb, hok, hrg⟩ := HDD.out.at_ hlt
          have HOK := Lib.hid (hok.keep HG1.out)
          have HRG := Lib.hid (range_keep (range_keep hrg HG1.out) HG.out)
          clear hok hrg
          go_upto_region 7 with (fail)
          refine wp_region_list ?_
          refine wpList_runTo rfl (some 32) rfl (.pointer (some ⟨pb, 0, none⟩)) wr (by first | (go_simp; done) | rfl) ?_
          refine wpList_runTo rfl (some 33) rfl (.slice (some ⟨b, o, none⟩) n0 c0) wr (by first | (go_simp; done) | rfl) ?_
          refine wpList_runTo rfl (some 34) rfl (.int .i64 (i : Int)) wr (by first | (go_simp; done) | rfl) ?_
          refine wpList_runTo rfl (some 35) rfl (.pointer (some ⟨b, o + i * 46, none⟩)) wr (by go_simp) ?_
          refine wpList_loadMid rfl 42 (.tmp 35) rfl (some 36) rfl b (o + i * 46) (by first | (go_simp; done) | rfl) e.cells _ HRG.out Tryz.underlying42 rfl deed_size ?_
          refine wpList_callC rfl (some 37) rfl 7 #[.pointer (some ⟨pb, 0, none⟩), .agg e.cells.toArray] (by go_simp) _ (does20 HB.out HOK.out) (fun r w' k => ⟨_, k.1⟩) ?_
          rintro v w3 ⟨he, hb3⟩
          obtain rfl : v = .bool true := by injection he
          have X : LInv w1 w3 pb n0 15 (.int .i64 ((i : Int) + 1)) := ⟨i + 1, by simp, hlt, hlt2, _, hb3⟩
          have HX := Lib.hid X
          clear he X hb3 HRG HOK HB
          go_wp2_with fail
          go_roundw
          case rel => first | exact HX.out | ((repeat apply Exists.intro); exact HX.out) | ((repeat apply Exists.intro); refine ⟨HX.out, ?_⟩; rfl)
          case measure => first | (simp [intV]; omega)
        · go_wp2_with fail
          go_meet
          exact ⟨⟨_, rfl⟩, s, HB.out⟩
      · go_wp2_with fail
        go_meet
        exact ⟨⟨_, rfl⟩, s, HB.out⟩
  case rest =>
    obtain ⟨⟨ki, rfl⟩, s, c, d, z, x, y, h⟩ := hcut
    obtain ⟨w3, hw3⟩ : ∃ j, j = wc := ⟨_, rfl⟩
    rw [← hw3] at h ⊢
    have HQF := Lib.hid (farLow h HXW.out.2 HXW.out.1)
    have HX3 := Lib.hid (HX1.out.keep h.grow)
    have HP3 := Lib.hid (h.rebase HG1.out)
    clear hw3 h HX1 HB0
    go_upto_region 8 with (fail)
    refine wp_region_list ?_
    refine wpList_loadRow rfl 39 (.tmp 3) rfl (some 38) rfl xb (by first | (go_simp; done) | rfl) (p.cells (.slice A k cc)) _ HX3.out.1 Tryz.underlying39 rfl pk_size ?_
    refine wpList_callC rfl (some 39) rfl 13 #[.agg (p.cells (.slice A k cc)).toArray] (by go_simp) _ (cut20 p) (fun r w' k => ⟨_, k.1⟩) ?_
    rintro v w4 ⟨he, g4⟩
    obtain rfl : v = .agg ((cutP p).cells (.slice A k cc)).toArray := by injection he
    refine wpList_storeRow rfl 39 (.tmp 3) (.tmp 39) rfl rfl xb (by first | (go_simp; done) | rfl) ((cutP p).cells (.slice A k cc)) (p.cells (.slice A k cc)) (by first | (go_simp; done) | rfl) (HX3.out.keep g4) rfl pk_size (PK.one _ rfl) ?_
    intro w5 r5 t5 z5
    have HX := Lib.hid r5
    have HP5 := Lib.hid ((HP3.out.keep g4).far HQF.out t5)
    clear he g4 r5 t5 z5 HX3 HP3
    obtain ⟨q, hq⟩ : ∃ q, q = cutP p := ⟨_, rfl⟩
    have HQO := Lib.hid (show q.ok by rw [hq]; exact cutP_ok HP.out)
    have HQK := Lib.hid (show k = q.names.length by rw [hq]; exact HK.out)
    have HQR := Lib.hid (show RS W A k q.names by rw [hq]; exact HR.out)
    rw [← hq] at HX
    clear hq
    have x0 := HX.out.1.2 0 _ rfl
    have HLV := Lib.hid lives20
    obtain ⟨kd, hkd⟩ : ∃ j, j = q.kind := ⟨_, rfl⟩
    rw [← hkd] at x0
    have HKD := Lib.hid hkd
    clear hkd
    by_cases h1 : kd = 1
    rotate_left
    · have z0 : (kd != 1) = true := bne_iff_ne.2 h1
      go_upto_region 9 with (fail)
      have hsS := x0
      refine wp_region_held_drew (S := fun w' => w'.cell? ⟨xb, 0, none⟩ = some (.int .i64 kd)) (by kernel_rfl) ?_ (fun hHeld => ?_)
      · exact hsS
      refine wpAnyH_take (i := 0) (oi := _) (v := ?_) rfl (by kernel_rfl) (by kernel_rfl) (by kernel_rfl) (fun _ _ _ h => h) (Or.inl ⟨by rfl, ?_⟩) (by assumption) ?_
      rotate_left
      · (intro w hSw; (try dsimp only at hSw); go_simp; (try with_reducible rfl))
      simp only [Act.put, List.getElem_toArray, List.getElem_cons_zero, List.setIfInBounds_toArray, List.set_cons_zero, List.set_cons_succ]
      refine wpAnyH_take (i := 1) (oi := _) (v := ?_) rfl (by kernel_rfl) (by kernel_rfl) (by kernel_rfl) (fun _ _ _ h => h) (Or.inl ⟨by rfl, ?_⟩) (by assumption) ?_
      rotate_left
      · (intro w hSw; (try dsimp only at hSw); go_simp; (try with_reducible rfl))
      simp only [Act.put, List.getElem_toArray, List.getElem_cons_succ, List.getElem_cons_zero, List.setIfInBounds_toArray, List.set_cons_zero, List.set_cons_succ]
      refine wpAnyH_take (i := 2) (oi := _) (v := .bool true) rfl (by kernel_rfl) (by kernel_rfl) (by kernel_rfl) (fun _ _ _ h => h) (Or.inl ⟨by rfl, ?_⟩) (by assumption) ?_
      · (intro w hSw; clear hSw; go_simp)
      simp only [Act.put, List.getElem_toArray, List.getElem_cons_succ, List.getElem_cons_zero, List.setIfInBounds_toArray, List.set_cons_zero, List.set_cons_succ]
      refine wpAnyH_take (i := 3) (oi := _) (v := .bool true) rfl (by kernel_rfl) (by kernel_rfl) (by kernel_rfl) (fun _ _ _ h => h) (Or.inl ⟨by rfl, ?_⟩) (by assumption) ?_
      · (intro w hSw; clear hSw; go_simp)
      simp only [Act.put, List.getElem_toArray, List.getElem_cons_succ, List.getElem_cons_zero, List.setIfInBounds_toArray, List.set_cons_zero, List.set_cons_succ]
      refine wpAnyH_take (i := 4) (oi := _) (v := undef) rfl (by kernel_rfl) (by kernel_rfl) (by kernel_rfl) (fun _ _ _ h => h) (Or.inr ⟨by rfl, rfl⟩) (by assumption) ?_
      simp only [Act.put, List.getElem_toArray, List.getElem_cons_succ, List.getElem_cons_zero, List.setIfInBounds_toArray, List.set_cons_zero, List.set_cons_succ]
      refine wpAnyH_take (i := 5) (oi := _) (v := undef) rfl (by kernel_rfl) (by kernel_rfl) (by kernel_rfl) (fun _ _ _ h => h) (Or.inr ⟨by rfl, rfl⟩) (by assumption) ?_
      simp only [Act.put, List.getElem_toArray, List.getElem_cons_succ, List.getElem_cons_zero, List.setIfInBounds_toArray, List.set_cons_zero, List.set_cons_succ]
      refine wpAnyH_take (i := 6) (oi := _) (v := undef) rfl (by kernel_rfl) (by kernel_rfl) (by kernel_rfl) (fun _ _ _ h => h) (Or.inr ⟨by rfl, rfl⟩) (by assumption) ?_
      simp only [Act.put, List.getElem_toArray, List.getElem_cons_succ, List.getElem_cons_zero, List.setIfInBounds_toArray, List.set_cons_zero, List.set_cons_succ]
      refine wpAnyH_take (i := 7) (oi := _) (v := undef) rfl (by kernel_rfl) (by kernel_rfl) (by kernel_rfl) (fun _ _ _ h => h) (Or.inr ⟨by rfl, rfl⟩) (by assumption) ?_
      simp only [Act.put, List.getElem_toArray, List.getElem_cons_succ, List.getElem_cons_zero, List.setIfInBounds_toArray, List.set_cons_zero, List.set_cons_succ]
      refine wpAnyH_take (i := 8) (oi := _) (v := undef) rfl (by kernel_rfl) (by kernel_rfl) (by kernel_rfl) (fun _ _ _ h => h) (Or.inr ⟨by rfl, rfl⟩) (by assumption) ?_
      simp only [Act.put, List.getElem_toArray, List.getElem_cons_succ, List.getElem_cons_zero, List.setIfInBounds_toArray, List.set_cons_zero, List.set_cons_succ]
      refine wpAnyH_take (i := 9) (oi := _) (v := undef) rfl (by kernel_rfl) (by kernel_rfl) (by kernel_rfl) (fun _ _ _ h => h) (Or.inr ⟨by rfl, rfl⟩) (by assumption) ?_
      simp only [Act.put, List.getElem_toArray, List.getElem_cons_succ, List.getElem_cons_zero, List.setIfInBounds_toArray, List.set_cons_zero, List.set_cons_succ]
      refine wpAnyH_take (i := 10) (oi := _) (v := undef) rfl (by kernel_rfl) (by kernel_rfl) (by kernel_rfl) (fun _ _ _ h => h) (Or.inr ⟨by rfl, rfl⟩) (by assumption) ?_
      simp only [Act.put, List.getElem_toArray, List.getElem_cons_succ, List.getElem_cons_zero, List.setIfInBounds_toArray, List.set_cons_zero, List.set_cons_succ]
      refine wpAnyH_take (i := 11) (oi := _) (v := undef) rfl (by kernel_rfl) (by kernel_rfl) (by kernel_rfl) (fun _ _ _ h => h) (Or.inr ⟨by rfl, rfl⟩) (by assumption) ?_
      simp only [Act.put, List.getElem_toArray, List.getElem_cons_succ, List.getElem_cons_zero, List.setIfInBounds_toArray, List.set_cons_zero, List.set_cons_succ]
      refine wpAnyH_take (i := 12) (oi := _) (v := undef) rfl (by kernel_rfl) (by kernel_rfl) (by kernel_rfl) (fun _ _ _ h => h) (Or.inr ⟨by rfl, rfl⟩) (by assumption) ?_
      simp only [Act.put, List.getElem_toArray, List.getElem_cons_succ, List.getElem_cons_zero, List.setIfInBounds_toArray, List.set_cons_zero, List.set_cons_succ]
      refine wpAnyH_take (i := 13) (oi := _) (v := undef) rfl (by kernel_rfl) (by kernel_rfl) (by kernel_rfl) (fun _ _ _ h => h) (Or.inr ⟨by rfl, rfl⟩) (by assumption) ?_
      simp only [Act.put, List.getElem_toArray, List.getElem_cons_succ, List.getElem_cons_zero, List.setIfInBounds_toArray, List.set_cons_zero, List.set_cons_succ]
      refine wpAnyH_take (i := 14) (oi := _) (v := .bool true) rfl (by kernel_rfl) (by kernel_rfl) (by kernel_rfl) (fun _ _ _ h => h) (Or.inl ⟨by rfl, ?_⟩) (by assumption) ?_
      · (intro w hSw; clear hSw; go_simp)
      simp only [Act.put, List.getElem_toArray, List.getElem_cons_succ, List.getElem_cons_zero, List.setIfInBounds_toArray, List.set_cons_zero, List.set_cons_succ]
      refine wpAnyH_done (by kernel_rfl) ?_ _
      all_goals
        clear hsS x0
        go_wp2_with fail
        refine (HLV.out _).mono ?_
        rintro r w6 ⟨rfl, g6⟩
        go_wp2_with fail
        go_ret
        exact ⟨rfl, HP5.out.grow.trans (Grow.trans (by (repeat (first | exact Grow.refl _ | refine Grow.drew ?_ | refine Grow.drewN ?_ _))) g6)⟩
    subst h1
    have x1 := HX.out.1.2 1 _ rfl
    have x2 := HX.out.1.2 2 _ rfl
    have p1 := HP5.out.row.1.2 1 _ rfl
    obtain ⟨ev, hev⟩ : ∃ j, j = (if isB q.client = true then (s.side q.client).ep else 0) := ⟨_, rfl⟩
    have HEV := Lib.hid hev
    clear hev
    go_upto_region 9 with (fail)
    have hsS := And.intro x0 (And.intro x1 (And.intro x2 p1))
    go_region_held3 (fun w' => w'.cell? ⟨xb, 0, none⟩ = some (.int .i64 1) ∧ w'.cell? ⟨xb, 1, none⟩ = some (.int .i64 q.client) ∧ w'.cell? ⟨xb, 2, none⟩ = some (.int .i64 q.epoch) ∧ w'.cell? ⟨pb, 1, none⟩ = some (.pointer (some ⟨c, 0, none⟩))) (first | exact hsS) ((go_at_call 9; refine (card_epoch (HP5.out.cd.keep ?_) q.client).mono ?_; (repeat (first | exact Grow.refl _ | refine Grow.drew ?_ | refine Grow.drewN ?_ _)); rw [← HEV.out]; rintro r w6 ⟨rfl, rfl⟩))
    all_goals
      clear hsS x0 x1 x2 p1
      by_cases he : q.epoch = ev
      · have z0 : (q.epoch == ev) = true := beq_iff_eq.2 he
        go_wp2_with fail
        refine (HLV.out _).mono ?_
        rintro r w6 ⟨rfl, g6⟩
        go_wp2_with fail
        go_ret
        exact ⟨rfl, HP5.out.grow.trans (Grow.trans (by (repeat (first | exact Grow.refl _ | refine Grow.drew ?_ | refine Grow.drewN ?_ _))) g6)⟩
      · have z0 : (q.epoch == ev) = false := beq_eq_false_iff_ne.2 he
        have HFE := Lib.hid (fenced2 (s := s) (by rw [← HEV.out]; exact he))
        clear he
        have p0 := HP5.out.row.1.2 0 _ rfl
        go_wp2_with fail
        refine (pm_loadU (HP5.out.cd.1.keep (by (repeat (first | exact Grow.refl _ | refine Grow.drew ?_ | refine Grow.drewN ?_ _)))) 0 23168 (by decide) (by decide)).mono ?_
        rintro r w6 ⟨A6, c6, rfl, o6, g6⟩
        rw [(load_all HP5.out.cd.1.lenS).1] at o6 ⊢
        rw [(load_all HP5.out.cd.1.lenS).2] at o6
        have HO6 := Lib.hid (show Own w6 w5.heap.size A6 23168 c6 s.m.S from o6)
        have G6 : Grow w5 w6 := Grow.trans (by (repeat (first | exact Grow.refl _ | refine Grow.drew ?_ | refine Grow.drewN ?_ _))) g6
        have HP6 := Lib.hid (HP5.out.keep G6)
        have HX6 := Lib.hid (HX.out.keep G6)
        have p06 := HP6.out.row.1.2 0 _ rfl
        clear o6 g6 p0
        go_wp2_with fail
        refine (pm_lasts HP6.out.cd.1 0 23168 (by decide)).mono ?_
        rintro r wl ⟨A7, c7, rfl, o7, g7⟩
        rw [lasts_all HP6.out.cd.1.lenT] at o7
        have HO7 := Lib.hid o7
        have HPl := Lib.hid (HP6.out.keep g7)
        have HXl := Lib.hid (HX6.out.keep g7)
        have HS6 := Lib.hid (HO6.out.sl.keep g7)
        have HS7 := Lib.hid o7.sl
        have HF6 := Lib.hid (show 0 < 23168 → ∀ j, A6 = some j → ¬ (x.F j.block ∨ j.block = c) from fun _ j hj k => by
          subst hj
          have h1 := (World.ownsRow.lt HO6.out.2.2 j.block rfl).1
          have f := far20 HP5.out h1
          exact k.elim f.x f.c)
        have HF7 := Lib.hid (show 0 < 23168 → ∀ j, A7 = some j → ¬ (x.F j.block ∨ j.block = c) from fun _ j hj k => by
          subst hj
          have h1 := (World.ownsRow.lt HO7.out.2.2 j.block rfl).1
          have f := far20 HP6.out h1
          exact k.elim f.x f.c)
        obtain ⟨an, han⟩ : ∃ j, j = (doP s q).1 := ⟨_, rfl⟩
        obtain ⟨bn, hbn⟩ : ∃ j, j = (doP s q).2.1 := ⟨_, rfl⟩
        have HCALL := Lib.hid (show ∀ v, P20 W v pb c d z x y s s → Calls Tryz.prog 16 #[.pointer (some ⟨c, 0, none⟩), .agg (q.cells (.slice A k cc)).toArray] v (fun r w' => r = .returned (.tuple #[.agg (an.cells (.slice none 0 0)).toArray, .bool bn]) ∧ CD w' c x s.stale ∧ Turn (fun k => x.F k ∨ k = c) v w') from fun v hP => by
          rw [han, hbn, ← HFE.out.1]
          exact card_do hP.cd q HQO.out HQK.out (HQR.out.grow hP.grow) (fun h0 j hj e => by
            have q1 := HQR.out.far h0 j hj
            rcases e with e | e
            · have := hP.xW _ e; omega
            · have := hP.cW; omega))
        replace HFE := Lib.hid (show bn = true → an.errno = 31 by rw [han, hbn]; exact HFE.out.2)
        clear han hbn o7 g7 p06 G6 HP5 HP6 HX HX6 HO6 HO7
        go_upto_region 13 with (fail)
        go_cut [11, 12] (fun va vb wx => ∃ u, va = .pointer (some ⟨u, 0, none⟩) ∧ vb = .bool bn ∧ P20 W wx pb c d z x y s.stale s ∧ Row wx u (an.cells (.slice none 0 0)) ∧ Turn (fun k => x.F k ∨ k = c) wl wx)
        case first =>
          have hsS := And.intro (HPl.out.row.1.2 1 _ rfl) HXl.out.1.range
          refine wp_region_held_drew (S := fun w' => w'.cell? ⟨pb, 1, none⟩ = some (.pointer (some ⟨c, 0, none⟩)) ∧ w'.rangeAt xb 0 (q.cells (.slice A k cc))) (by kernel_rfl) ?_ (fun hHeld => ?_)
          · exact hsS
          clear hsS
          refine wpAnyH_take (i := 0) (oi := _) (v := ?_) rfl (by kernel_rfl) (by kernel_rfl) (by kernel_rfl) (fun _ _ _ h => h) (Or.inl ⟨by rfl, ?_⟩) (by assumption) ?_
          rotate_left
          · (intro w hSw; obtain ⟨q1, -⟩ := hSw; go_simp; (try with_reducible rfl))
          simp only [Act.put, List.getElem_toArray, List.getElem_cons_zero, List.setIfInBounds_toArray, List.set_cons_zero, List.set_cons_succ]
          refine wpAnyH_take (i := 1) (oi := _) (v := ?_) rfl (by kernel_rfl) (by kernel_rfl) (by kernel_rfl) (fun _ _ _ h => h) (Or.inl ⟨by rfl, ?_⟩) (by assumption) ?_
          rotate_left
          · (intro w hSw; obtain ⟨q1, -⟩ := hSw; go_simp; (try with_reducible rfl))
          simp only [Act.put, List.getElem_toArray, List.getElem_cons_succ, List.getElem_cons_zero, List.setIfInBounds_toArray, List.set_cons_zero, List.set_cons_succ]
          refine wpAnyH_take (i := 2) (oi := _) (v := ?_) rfl (by kernel_rfl) (by kernel_rfl) (by kernel_rfl) (fun _ _ _ h => h) (Or.inl ⟨by rfl, ?_⟩) (by assumption) ?_
          rotate_left
          · (intro w hSw; obtain ⟨q1, -⟩ := hSw; go_simp; (try with_reducible rfl))
          simp only [Act.put, List.getElem_toArray, List.getElem_cons_succ, List.getElem_cons_zero, List.setIfInBounds_toArray, List.set_cons_zero, List.set_cons_succ]
          refine wpAnyH_take (i := 3) (oi := _) (v := ?_) rfl (by kernel_rfl) (by kernel_rfl) (by kernel_rfl) (fun _ _ _ h => h) (Or.inl ⟨by rfl, ?_⟩) (by assumption) ?_
          rotate_left
          · (intro w hSw; obtain ⟨q1, -⟩ := hSw; go_simp; (try with_reducible rfl))
          simp only [Act.put, List.getElem_toArray, List.getElem_cons_succ, List.getElem_cons_zero, List.setIfInBounds_toArray, List.set_cons_zero, List.set_cons_succ]
          refine wpAnyH_take (i := 4) (oi := _) (v := .agg (q.cells (.slice A k cc)).toArray) rfl (by kernel_rfl) (by kernel_rfl) (by kernel_rfl) (fun _ _ _ h => h) (yieldsIf_load_mid (by rfl) 39 (.tmp 3) rfl xb 0 (by first | (go_simp; done) | rfl) (q.cells (.slice A k cc)) _ (fun w hS => hS.2) Tryz.underlying39 rfl pk_size) (by assumption) ?_
          simp only [Act.put, List.getElem_toArray, List.getElem_cons_succ, List.getElem_cons_zero, List.setIfInBounds_toArray, List.set_cons_zero, List.set_cons_succ]
          have gdr := (Grow.refl wl).drew
          refine wpAnyH_ready (rs := [5, 9]) (by kernel_rfl) (by simp) ?_
          refine AllReadyH.cons (o := _) rfl (fun K hK => ?_) (AllReadyH.cons (o := _) rfl (fun K hK => ?_) AllReadyH.nil)
          · refine of_wanted (by rfl) ?_
            refine wp_callTo (some 78) rfl 16 #[.pointer (some ⟨c, 0, none⟩), .agg (q.cells (.slice A k cc)).toArray] (by kernel_rfl) _ (HCALL.out wl.drew (HPl.out.keep gdr)) (fun r w' k => ⟨_, k.1⟩) ?_
            rintro v w5 ⟨he, h5, t5⟩
            obtain rfl : v = .tuple #[.agg (an.cells (.slice none 0 0)).toArray, .bool bn] := by injection he
            clear he
            have HP5 := Lib.hid ((HPl.out.keep gdr).card h5 t5)
            have HT5 := Lib.hid ((Turn.grow gdr (fun k => x.F k ∨ k = c)).and t5)
            have HQ5 := Lib.hid ((HXl.out.keep gdr).turnW t5 (fun k => k.elim HQF.out.x HQF.out.c))
            refine hK.out _ _ ⟨HP5.out.row.1.2 1 _ rfl, HQ5.out.1.range⟩ (fun hHeld2 => ?_)
            clear hK K h5 t5 hHeld gdr
            simp only [Act.put, List.setIfInBounds_toArray, List.set_cons_zero, List.set_cons_succ]
            refine wpAnyH_take (i := 6) (oi := _) (v := .tuple #[.agg (an.cells (.slice none 0 0)).toArray, .bool bn]) rfl (by kernel_rfl) (by kernel_rfl) (by kernel_rfl) (fun _ _ _ h => h) (Or.inl ⟨by rfl, ?_⟩) (by assumption) ?_
            · (intro w hSw; clear hSw; go_simp; (try with_reducible rfl))
            simp only [Act.put, List.getElem_toArray, List.getElem_cons_succ, List.getElem_cons_zero, List.setIfInBounds_toArray, List.set_cons_zero, List.set_cons_succ]
            refine wpAnyH_take (i := 7) (oi := _) (v := .agg (an.cells (.slice none 0 0)).toArray) rfl (by kernel_rfl) (by kernel_rfl) (by kernel_rfl) (fun _ _ _ h => h) (Or.inl ⟨by rfl, ?_⟩) (by assumption) ?_
            · (intro w hSw; clear hSw; go_simp; (try with_reducible rfl))
            simp only [Act.put, List.getElem_toArray, List.getElem_cons_succ, List.getElem_cons_zero, List.setIfInBounds_toArray, List.set_cons_zero, List.set_cons_succ]
            refine wpAnyH_take (i := 8) (oi := _) (v := .bool bn) rfl (by kernel_rfl) (by kernel_rfl) (by kernel_rfl) (fun _ _ _ h => h) (Or.inl ⟨by rfl, ?_⟩) (by assumption) ?_
            · (intro w hSw; clear hSw; go_simp; (try with_reducible rfl))
            simp only [Act.put, List.getElem_toArray, List.getElem_cons_succ, List.getElem_cons_zero, List.setIfInBounds_toArray, List.set_cons_zero, List.set_cons_succ]
            have hu0 := Row.new w5 39 zP #[.int .i64 0, .int .i64 0, .int .i64 0, .int .i64 0, .int .i64 0, .int .i64 0, .int .i64 0, .string ⟨#[]⟩, .int .i64 0, .int .i64 0, .int .i64 0, .string ⟨#[]⟩, .string ⟨#[]⟩, .int .i64 0, .int .i64 0, .int .i64 0, .int .i64 0, .string ⟨#[]⟩, .int .i64 0, .int .i64 0, .int .i64 0, .int .i64 0, .string ⟨#[]⟩, .slice none 0 0, .int .i64 0, .int .i64 0, .int .i64 0, .int .i64 0, .int .i64 0, .int .i64 0, .int .i64 0, .int .i64 0, .int .i64 0, .int .i64 0, .int .i64 0, .int .i64 0, .int .i64 0, .int .i64 0, .int .i64 0, .int .i64 0, .int .i64 0, .int .i64 0, .int .i64 0] rfl
            have GA := (Grow.refl w5).alloc (.cells #[.int .i64 0, .int .i64 0, .int .i64 0, .int .i64 0, .int .i64 0, .int .i64 0, .int .i64 0, .string ⟨#[]⟩, .int .i64 0, .int .i64 0, .int .i64 0, .string ⟨#[]⟩, .string ⟨#[]⟩, .int .i64 0, .int .i64 0, .int .i64 0, .int .i64 0, .string ⟨#[]⟩, .int .i64 0, .int .i64 0, .int .i64 0, .int .i64 0, .string ⟨#[]⟩, .slice none 0 0, .int .i64 0, .int .i64 0, .int .i64 0, .int .i64 0, .int .i64 0, .int .i64 0, .int .i64 0, .int .i64 0, .int .i64 0, .int .i64 0, .int .i64 0, .int .i64 0, .int .i64 0, .int .i64 0, .int .i64 0, .int .i64 0, .int .i64 0, .int .i64 0, .int .i64 0] 39)
            obtain ⟨w6, hw6⟩ : ∃ j, j = w5.alloc (.cells #[.int .i64 0, .int .i64 0, .int .i64 0, .int .i64 0, .int .i64 0, .int .i64 0, .int .i64 0, .string ⟨#[]⟩, .int .i64 0, .int .i64 0, .int .i64 0, .string ⟨#[]⟩, .string ⟨#[]⟩, .int .i64 0, .int .i64 0, .int .i64 0, .int .i64 0, .string ⟨#[]⟩, .int .i64 0, .int .i64 0, .int .i64 0, .int .i64 0, .string ⟨#[]⟩, .slice none 0 0, .int .i64 0, .int .i64 0, .int .i64 0, .int .i64 0, .int .i64 0, .int .i64 0, .int .i64 0, .int .i64 0, .int .i64 0, .int .i64 0, .int .i64 0, .int .i64 0, .int .i64 0, .int .i64 0, .int .i64 0, .int .i64 0, .int .i64 0, .int .i64 0, .int .i64 0] 39) := ⟨_, rfl⟩
            obtain ⟨u, hu⟩ : ∃ j, j = w5.heap.size := ⟨_, rfl⟩
            rw [← hw6] at hu0 GA
            rw [← hu] at hu0
            have HU0 := Lib.hid hu0
            have HP6 := Lib.hid (HP5.out.keep GA)
            have HT6 := Lib.hid (HT5.out.andGrow GA)
            have HUW := Lib.hid (show wl.heap.size ≤ u by have := HT5.out.size; omega)
            have HQ6 := Lib.hid (HQ5.out.keep GA)
            have HUF := Lib.hid (far20 HP5.out (Nat.le_of_eq hu.symm))
            have hqu : ¬ u = xb := by have := HQ5.out.1.1; omega
            refine wpAnyH_ready (rs := [9]) (by kernel_rfl) (by simp) ?_
            refine AllReadyH.cons (o := _) rfl (fun K hK => ?_) AllReadyH.nil
            refine of_wanted (by rfl) ?_
            refine wp_runTo (some 11) rfl (.pointer (some ⟨u, 0, none⟩)) w6 (by rw [hw6, hu]; kernel_rfl) ?_
            refine hK.out _ _ ⟨HP6.out.row.1.2 1 _ rfl, HQ6.out.1.range⟩ (fun hHeld3 => ?_)
            clear hK K hu0 hw6 hu GA HP5 HQ5 hHeld2
            simp only [Act.put, List.setIfInBounds_toArray, List.set_cons_zero, List.set_cons_succ]
            refine wpAnyH_ready (rs := [10]) (by kernel_rfl) (by simp) ?_
            refine AllReadyH.cons (o := _) rfl (fun K hK => ?_) AllReadyH.nil
            refine of_wanted (by rfl) ?_
            refine wp_store_mid 39 (.tmp 11) (.tmp 79) rfl u 0 (an.cells (.slice none 0 0)).toArray (by rfl) (by rfl) (by rw [List.size_toArray]; exact HU0.out.there (Nat.le_refl 43)) pk_size (all_oneCell_toArray fun v hv => List.all_eq_true.1 (PK.one an rfl) v hv) ?_
            have t7 := setCells_turn u (an.cells (.slice none 0 0)) 0 w6
            have HU7 := Lib.hid (HU0.out.setCells (vs := an.cells (.slice none 0 0)) rfl)
            have HP7 := Lib.hid (HP6.out.far HUF.out t7)
            have HT7 := Lib.hid (HT6.out.trans t7 (fun i e => .inr (by have e' : i = u := e; have := HUW.out; omega)))
            have HQ7 := Lib.hid (HQ6.out.turnW t7 (fun k => hqu k.symm))
            refine hK.out _ _ ⟨HP7.out.row.1.2 1 _ rfl, HQ7.out.1.range⟩ (fun hHeld4 => ?_)
            clear hK K t7 HU0 HP6 HQ6 hHeld3
            refine wpAnyH_take (i := 11) (oi := _) (v := .bool bn) rfl (by kernel_rfl) (by kernel_rfl) (by kernel_rfl) (fun _ _ _ h => h) (Or.inl ⟨by rfl, ?_⟩) (by assumption) ?_
            · (intro w hSw; clear hSw; go_simp; (try with_reducible rfl))
            simp only [Act.put, List.getElem_toArray, List.getElem_cons_succ, List.getElem_cons_zero, List.setIfInBounds_toArray, List.set_cons_zero, List.set_cons_succ]
            refine wpAnyH_done (by kernel_rfl) ?_ _
            go_wp2_with fail
            go_meet
            exact ⟨u, rfl, rfl, HP7.out, HU7.out, HT7.out⟩
          · have hu0 := Row.new wl.drew 39 zP #[.int .i64 0, .int .i64 0, .int .i64 0, .int .i64 0, .int .i64 0, .int .i64 0, .int .i64 0, .string ⟨#[]⟩, .int .i64 0, .int .i64 0, .int .i64 0, .string ⟨#[]⟩, .string ⟨#[]⟩, .int .i64 0, .int .i64 0, .int .i64 0, .int .i64 0, .string ⟨#[]⟩, .int .i64 0, .int .i64 0, .int .i64 0, .int .i64 0, .string ⟨#[]⟩, .slice none 0 0, .int .i64 0, .int .i64 0, .int .i64 0, .int .i64 0, .int .i64 0, .int .i64 0, .int .i64 0, .int .i64 0, .int .i64 0, .int .i64 0, .int .i64 0, .int .i64 0, .int .i64 0, .int .i64 0, .int .i64 0, .int .i64 0, .int .i64 0, .int .i64 0, .int .i64 0] rfl
            have GA := (Grow.refl wl.drew).alloc (.cells #[.int .i64 0, .int .i64 0, .int .i64 0, .int .i64 0, .int .i64 0, .int .i64 0, .int .i64 0, .string ⟨#[]⟩, .int .i64 0, .int .i64 0, .int .i64 0, .string ⟨#[]⟩, .string ⟨#[]⟩, .int .i64 0, .int .i64 0, .int .i64 0, .int .i64 0, .string ⟨#[]⟩, .int .i64 0, .int .i64 0, .int .i64 0, .int .i64 0, .string ⟨#[]⟩, .slice none 0 0, .int .i64 0, .int .i64 0, .int .i64 0, .int .i64 0, .int .i64 0, .int .i64 0, .int .i64 0, .int .i64 0, .int .i64 0, .int .i64 0, .int .i64 0, .int .i64 0, .int .i64 0, .int .i64 0, .int .i64 0, .int .i64 0, .int .i64 0, .int .i64 0, .int .i64 0] 39)
            obtain ⟨w5, hw5⟩ : ∃ j, j = wl.drew.alloc (.cells #[.int .i64 0, .int .i64 0, .int .i64 0, .int .i64 0, .int .i64 0, .int .i64 0, .int .i64 0, .string ⟨#[]⟩, .int .i64 0, .int .i64 0, .int .i64 0, .string ⟨#[]⟩, .string ⟨#[]⟩, .int .i64 0, .int .i64 0, .int .i64 0, .int .i64 0, .string ⟨#[]⟩, .int .i64 0, .int .i64 0, .int .i64 0, .int .i64 0, .string ⟨#[]⟩, .slice none 0 0, .int .i64 0, .int .i64 0, .int .i64 0, .int .i64 0, .int .i64 0, .int .i64 0, .int .i64 0, .int .i64 0, .int .i64 0, .int .i64 0, .int .i64 0, .int .i64 0, .int .i64 0, .int .i64 0, .int .i64 0, .int .i64 0, .int .i64 0, .int .i64 0, .int .i64 0] 39) := ⟨_, rfl⟩
            obtain ⟨u, hu⟩ : ∃ j, j = wl.drew.heap.size := ⟨_, rfl⟩
            rw [← hw5] at hu0 GA
            rw [← hu] at hu0
            have HP5 := Lib.hid (HPl.out.keep (gdr.trans GA))
            have HQ5 := Lib.hid (HXl.out.keep (gdr.trans GA))
            have HUF := Lib.hid (far20 (HPl.out.keep gdr) (Nat.le_of_eq hu.symm))
            have HUW := Lib.hid (show wl.heap.size ≤ u from Nat.le_of_eq hu.symm)
            have HT5 := Lib.hid (Turn.grow (gdr.trans GA) (fun k => x.F k ∨ k = c))
            have hqu : ¬ u = xb := by have := (HXl.out.keep gdr).1.1; omega
            refine of_wanted (by rfl) ?_
            refine wp_runTo (some 11) rfl (.pointer (some ⟨u, 0, none⟩)) w5 (by rw [hw5, hu]; kernel_rfl) ?_
            refine hK.out _ _ ⟨HP5.out.row.1.2 1 _ rfl, HQ5.out.1.range⟩ (fun hHeld2 => ?_)
            clear hK K hw5 hu GA hHeld gdr
            simp only [Act.put, List.setIfInBounds_toArray, List.set_cons_zero, List.set_cons_succ]
            refine wpAnyH_ready (rs := [5]) (by kernel_rfl) (by simp) ?_
            refine AllReadyH.cons (o := _) rfl (fun K hK => ?_) AllReadyH.nil
            refine of_wanted (by rfl) ?_
            refine wp_callTo (some 78) rfl 16 #[.pointer (some ⟨c, 0, none⟩), .agg (q.cells (.slice A k cc)).toArray] (by kernel_rfl) _ (HCALL.out w5 HP5.out) (fun r w' k => ⟨_, k.1⟩) ?_
            rintro v w6 ⟨he, h5, t5⟩
            obtain rfl : v = .tuple #[.agg (an.cells (.slice none 0 0)).toArray, .bool bn] := by injection he
            clear he
            have HP6 := Lib.hid (HP5.out.card h5 t5)
            have HT6 := Lib.hid (HT5.out.and t5)
            have HQ6 := Lib.hid (HQ5.out.turnW t5 (fun k => k.elim HQF.out.x HQF.out.c))
            have HU0 := Lib.hid (hu0.turnW t5 (fun k => k.elim HUF.out.x HUF.out.c))
            refine hK.out _ _ ⟨HP6.out.row.1.2 1 _ rfl, HQ6.out.1.range⟩ (fun hHeld3 => ?_)
            clear hK K h5 t5 hu0 HP5 HQ5 hHeld2
            simp only [Act.put, List.setIfInBounds_toArray, List.set_cons_zero, List.set_cons_succ]
            refine wpAnyH_take (i := 6) (oi := _) (v := .tuple #[.agg (an.cells (.slice none 0 0)).toArray, .bool bn]) rfl (by kernel_rfl) (by kernel_rfl) (by kernel_rfl) (fun _ _ _ h => h) (Or.inl ⟨by rfl, ?_⟩) (by assumption) ?_
            · (intro w hSw; clear hSw; go_simp; (try with_reducible rfl))
            simp only [Act.put, List.getElem_toArray, List.getElem_cons_succ, List.getElem_cons_zero, List.setIfInBounds_toArray, List.set_cons_zero, List.set_cons_succ]
            refine wpAnyH_take (i := 7) (oi := _) (v := .agg (an.cells (.slice none 0 0)).toArray) rfl (by kernel_rfl) (by kernel_rfl) (by kernel_rfl) (fun _ _ _ h => h) (Or.inl ⟨by rfl, ?_⟩) (by assumption) ?_
            · (intro w hSw; clear hSw; go_simp; (try with_reducible rfl))
            simp only [Act.put, List.getElem_toArray, List.getElem_cons_succ, List.getElem_cons_zero, List.setIfInBounds_toArray, List.set_cons_zero, List.set_cons_succ]
            refine wpAnyH_take (i := 8) (oi := _) (v := .bool bn) rfl (by kernel_rfl) (by kernel_rfl) (by kernel_rfl) (fun _ _ _ h => h) (Or.inl ⟨by rfl, ?_⟩) (by assumption) ?_
            · (intro w hSw; clear hSw; go_simp; (try with_reducible rfl))
            simp only [Act.put, List.getElem_toArray, List.getElem_cons_succ, List.getElem_cons_zero, List.setIfInBounds_toArray, List.set_cons_zero, List.set_cons_succ]
            refine wpAnyH_ready (rs := [10]) (by kernel_rfl) (by simp) ?_
            refine AllReadyH.cons (o := _) rfl (fun K hK => ?_) AllReadyH.nil
            refine of_wanted (by rfl) ?_
            refine wp_store_mid 39 (.tmp 11) (.tmp 79) rfl u 0 (an.cells (.slice none 0 0)).toArray (by rfl) (by rfl) (by rw [List.size_toArray]; exact HU0.out.there (Nat.le_refl 43)) pk_size (all_oneCell_toArray fun v hv => List.all_eq_true.1 (PK.one an rfl) v hv) ?_
            have t7 := setCells_turn u (an.cells (.slice none 0 0)) 0 w6
            have HU7 := Lib.hid (HU0.out.setCells (vs := an.cells (.slice none 0 0)) rfl)
            have HP7 := Lib.hid (HP6.out.far HUF.out t7)
            have HT7 := Lib.hid (HT6.out.trans t7 (fun i e => .inr (by have e' : i = u := e; have := HUW.out; omega)))
            have HQ7 := Lib.hid (HQ6.out.turnW t7 (fun k => hqu k.symm))
            refine hK.out _ _ ⟨HP7.out.row.1.2 1 _ rfl, HQ7.out.1.range⟩ (fun hHeld4 => ?_)
            clear hK K t7 HU0 HP6 HQ6 hHeld3
            refine wpAnyH_take (i := 11) (oi := _) (v := .bool bn) rfl (by kernel_rfl) (by kernel_rfl) (by kernel_rfl) (fun _ _ _ h => h) (Or.inl ⟨by rfl, ?_⟩) (by assumption) ?_
            · (intro w hSw; clear hSw; go_simp; (try with_reducible rfl))
            simp only [Act.put, List.getElem_toArray, List.getElem_cons_succ, List.getElem_cons_zero, List.setIfInBounds_toArray, List.set_cons_zero, List.set_cons_succ]
            refine wpAnyH_done (by kernel_rfl) ?_ _
            go_wp2_with fail
            go_meet
            exact ⟨u, rfl, rfl, HP7.out, HU7.out, HT7.out⟩
        case rest =>
          obtain ⟨u1, rfl, rfl, hp8, hu8, ht8⟩ := hcut
          obtain ⟨w8, hw8⟩ : ∃ j, j = wc := ⟨_, rfl⟩
          rw [← hw8] at hp8 hu8 ht8 ⊢
          have HP8 := Lib.hid hp8
          have HU8 := Lib.hid hu8
          replace HS6 := Lib.hid (HS6.out.turnW ht8 HF6.out)
          replace HS7 := Lib.hid (HS7.out.turnW ht8 HF7.out)
          clear hw8 hp8 hu8 ht8 HCALL HPl HXl HF6 HF7
          have p0 := HP8.out.row.1.2 0 _ rfl
          go_wp2_with fail
          refine (pm_loadU HP8.out.cd.1 0 23168 (by decide) (by decide)).mono ?_
          rintro r w9 ⟨A9, c9, rfl, o9, g9⟩
          rw [(load_all HP8.out.cd.1.lenS).1] at o9 ⊢
          rw [(load_all HP8.out.cd.1.lenS).2] at o9
          have HS9 := Lib.hid (show Sl w9 A9 23168 s.m.S from o9.sl)
          have HP9 := Lib.hid (HP8.out.keep g9)
          have HU9 := Lib.hid (HU8.out.keep g9)
          replace HS6 := Lib.hid (HS6.out.keep g9)
          replace HS7 := Lib.hid (HS7.out.keep g9)
          have p09 := HP9.out.row.1.2 0 _ rfl
          clear o9 g9 p0 HP8 HU8
          go_wp2_with fail
          refine (pm_lasts HP9.out.cd.1 0 23168 (by decide)).mono ?_
          rintro r w10 ⟨A10, c10, rfl, o10, g10⟩
          rw [lasts_all HP9.out.cd.1.lenT] at o10
          have HS10 := Lib.hid (show Sl w10 A10 23168 s.m.T from o10.sl)
          have HP10 := Lib.hid (HP9.out.keep g10)
          have HU10 := Lib.hid (HU9.out.keep g10)
          replace HS6 := Lib.hid (HS6.out.keep g10)
          replace HS7 := Lib.hid (HS7.out.keep g10)
          replace HS9 := Lib.hid (HS9.out.keep g10)
          clear o10 g10 p09 HP9 HU9
          go_wp2_with fail
          refine (same_yes HS6.out HS9.out rfl).mono ?_
          rintro r w11 ⟨rfl, k1, rfl⟩
          go_wp2_with fail
          refine (same_yes (HS7.out.drewN k1) (HS10.out.drewN k1) rfl).mono ?_
          rintro r w12 ⟨rfl, k2, rfl⟩
          have HP12 := Lib.hid (HP10.out.keep (((Grow.refl w10).drewN k1).drewN k2))
          have HU12 := Lib.hid (HU10.out.keep (((Grow.refl w10).drewN k1).drewN k2))
          obtain ⟨w12, hw12⟩ : ∃ j, j = (w10.drewN k1).drewN k2 := ⟨_, rfl⟩
          rw [← hw12] at HP12 HU12 ⊢
          clear hw12 HP10 HU10 HS6 HS7 HS9 HS10
          have p1 := HP12.out.row.1.2 1 _ rfl
          have u19 : w12.cell? ⟨u1, 19, none⟩ = some (.int .i64 an.errno) := HU12.out.1.2 19 _ rfl
          go_wp2_with fail
          refine (card_freshC HP12.out.cd).mono ?_
          rintro r w13 ⟨rfl, rfl⟩
          rw [show s.stale.fresh = false from rfl]
          cases bn with
          | false =>
            go_wp2_with fail
            refine (HLV.out _).mono ?_
            rintro r w14 ⟨rfl, g14⟩
            go_wp2_with fail
            go_ret
            exact ⟨rfl, HP12.out.grow.trans g14⟩
          | true =>
            have e31 := HFE.out rfl
            rw [e31] at u19
            clear e31 HFE
            go_wp2_with fail
            refine (HLV.out _).mono ?_
            rintro r w14 ⟨rfl, g14⟩
            go_wp2_with fail
            go_ret
            exact ⟨rfl, HP12.out.grow.trans g14⟩
end Go.Proofs.YtdlcpfgogjcciaaGreat
