/- The walk of the statement RegionOnce. No statement of the seat is proved here. -/
import Derived.Test.YtdlcpfgogjcciaaGreatZ27
namespace Go.Proofs.YtdlcpfgogjcciaaGreat
open Go.RowKit Go.Great

set_option maxHeartbeats 16000000 in
set_option maxRecDepth 8000 in
theorem law_RegionOnce (A0 : Option Addr) (n0 c0 : Nat) (L : List Dq) (p : PK) (A : Option Addr) (k cc : Nat) (e : Dq) (W : World) (hd : DD W A0 n0 L) (hp : p.ok) (hk : k = p.names.length) (hr : RS W A k p.names) (he : e.ok W) :
    Calls Tryz.prog 5 #[.slice A0 n0 c0, .agg (p.cells (.slice A k cc)).toArray, .agg e.cells.toArray] W fun e w' => e = .returned (.bool true) ∧ Below W.heap.size W w' := by
  obtain ⟨w0, xb, hw0, hxb, b0, g0, hl0⟩ := boxedP W p (.slice A k cc)
  have hdr := Row.new w0 42 e.cells _ rfl
  have gd := (Grow.refl w0).alloc (.cells e.cells.toArray 42)
  obtain ⟨P0, hP0⟩ : ∃ z, z = (p.cells (.slice A k cc)).toArray := ⟨_, rfl⟩
  obtain ⟨D0, hD0⟩ : ∃ z, z = e.cells.toArray := ⟨_, rfl⟩
  replace hw0 : w0 = W.alloc (.cells P0 39) := by rw [hw0, hP0]; rfl
  rw [← hP0, ← hD0]
  rw [← hD0] at hdr gd
  obtain ⟨w1, hw1⟩ : ∃ u, u = w0.alloc (.cells D0 42) := ⟨_, rfl⟩
  obtain ⟨db, hdb⟩ : ∃ u, u = w0.heap.size := ⟨_, rfl⟩
  rw [← hw1] at hdr gd
  rw [← hdb] at hdr
  have HDD := Lib.hid hd
  have HP := Lib.hid hp
  have HK := Lib.hid hk
  have HR := Lib.hid hr
  have HE := Lib.hid he
  have HX1 := Lib.hid (b0.keep gd)
  have HD1 := Lib.hid hdr
  have HG1 := Lib.hid (g0.trans gd)
  have HXW := Lib.hid (And.intro (Nat.le_of_eq hxb.symm) (HX1.out.1.1))
  have HDW := Lib.hid (show W.heap.size ≤ db ∧ db < w1.heap.size from ⟨by have := g0.size; omega, HD1.out.1.1⟩)
  have HNE := Lib.hid (show ¬ db = xb by omega)
  clear hd hp hk hr he b0 g0 hl0 hdr gd hD0 hP0
  go_enter Tryz.func5, Tryz.ntmps5
  go_upto_region 0 with (fail)
  refine wp_region_list ?_
  refine wpList_boxTo rfl 39 (.tmp 1) rfl (some 4) rfl xb hxb.symm P0 rfl ?_
  rw [← hw0]
  refine wpList_boxTo rfl 42 (.tmp 2) rfl (some 5) rfl db hdb.symm D0 rfl ?_
  rw [← hw1]
  clear hw0 hw1 hxb hdb
  go_wp2_with fail
  refine (begin20 w1).mono ?_
  rintro r w2 ⟨pb, rfl, hB⟩
  have HB0 := Lib.hid hB
  clear hB
  go_upto_block 0 with fail
  go_cut [8] (fun i wx => (∃ k : Int, i = .int .i64 k) ∧ ∃ s, B20 w1 wx pb s)
  case first =>
    go_wp2_with fail
    go_loopw [8] (fun t wr => LInv w1 wr pb n0 15 t) (fun t _ => 15 - (intV t).toNat)
    case atStart => exact ⟨0, rfl, Nat.zero_le _, Nat.zero_le _, _, HB0.out⟩
    case round =>
      obtain ⟨i, rfl, hi, hi2, s, hbo⟩ := hrel
      have HB := Lib.hid hbo
      have HG := Lib.hid (show Grow w1 wr by obtain ⟨_, _, _, _, _, h⟩ := hbo; exact h.grow)
      clear hbo
      by_cases hlt : i < n0
      · by_cases hlt2 : i < 15
        · obtain ⟨b, o, e, rfl, hb, hok, hrg⟩ := HDD.out.at_ hlt
          have HOK := Lib.hid (hok.keep HG1.out)
          have HRG := Lib.hid (range_keep (range_keep hrg HG1.out) HG.out)
          clear hok hrg
          go_upto_region 7 with (fail)
          refine wp_region_list ?_
          refine wpList_runTo rfl (some 33) rfl (.pointer (some ⟨pb, 0, none⟩)) wr (by first | (go_simp; done) | rfl) ?_
          refine wpList_runTo rfl (some 34) rfl (.slice (some ⟨b, o, none⟩) n0 c0) wr (by first | (go_simp; done) | rfl) ?_
          refine wpList_runTo rfl (some 35) rfl (.int .i64 (i : Int)) wr (by first | (go_simp; done) | rfl) ?_
          refine wpList_runTo rfl (some 36) rfl (.pointer (some ⟨b, o + i * 46, none⟩)) wr (by go_simp) ?_
          refine wpList_loadMid rfl 42 (.tmp 36) rfl (some 37) rfl b (o + i * 46) (by first | (go_simp; done) | rfl) e.cells _ HRG.out Tryz.underlying42 rfl deed_size ?_
          refine wpList_callC rfl (some 38) rfl 7 #[.pointer (some ⟨pb, 0, none⟩), .agg e.cells.toArray] (by go_simp) _ (does20 HB.out HOK.out) (fun r w' k => ⟨_, k.1⟩) ?_
          rintro v w3 ⟨he, hb3⟩
          obtain rfl : v = .bool true := by injection he
          have X : LInv w1 w3 pb n0 15 (.int .i64 ((i : Int) + 1)) := ⟨i + 1, by simp, hlt, hlt2, _, hb3⟩
          have HX := Lib.hid X
          clear he X hb3 HRG HOK HB
          go_wp2_with fail
          go_roundw
          case rel => first | exact HX.out | ((repeat apply Exists.intro); exact HX.out) | ((repeat apply Exists.intro); refine ⟨HX.out, ?_⟩; rfl)
          case measure => first | (simp [intV]; omega)
        · go_wp2_with fail
          go_meet
          exact ⟨⟨_, rfl⟩, s, HB.out⟩
      · go_wp2_with fail
        go_meet
        exact ⟨⟨_, rfl⟩, s, HB.out⟩
  case rest =>
    obtain ⟨⟨ki, rfl⟩, s, c, d, z, x, y, h⟩ := hcut
    obtain ⟨w3, hw3⟩ : ∃ j, j = wc := ⟨_, rfl⟩
    rw [← hw3] at h ⊢
    have HQF := Lib.hid (farLow h HXW.out.2 HXW.out.1)
    have HDF := Lib.hid (farLow h HDW.out.2 HDW.out.1)
    have HX3 := Lib.hid (HX1.out.keep h.grow)
    have HD3 := Lib.hid (HD1.out.keep h.grow)
    have HP3 := Lib.hid (h.rebase HG1.out)
    clear hw3 h HX1 HD1 HB0 HXW HDW
    go_upto_region 8 with (fail)
    refine wp_region_list ?_
    refine wpList_loadRow rfl 39 (.tmp 4) rfl (some 39) rfl xb (by first | (go_simp; done) | rfl) (p.cells (.slice A k cc)) _ HX3.out.1 Tryz.underlying39 rfl pk_size ?_
    refine wpList_callC rfl (some 40) rfl 13 #[.agg (p.cells (.slice A k cc)).toArray] (by go_simp) _ (cut20 p) (fun r w' k => ⟨_, k.1⟩) ?_
    rintro v w4 ⟨he, g4⟩
    obtain rfl : v = .agg ((cutP p).cells (.slice A k cc)).toArray := by injection he
    refine wpList_storeRow rfl 39 (.tmp 4) (.tmp 40) rfl rfl xb (by first | (go_simp; done) | rfl) ((cutP p).cells (.slice A k cc)) (p.cells (.slice A k cc)) (by first | (go_simp; done) | rfl) (HX3.out.keep g4) rfl pk_size (PK.one _ rfl) ?_
    intro wq r5 t5 z5
    have HX := Lib.hid r5
    have HD := Lib.hid ((HD3.out.keep g4).turnW t5 HNE.out)
    have HPq := Lib.hid ((HP3.out.keep g4).far HQF.out t5)
    clear he g4 r5 t5 z5 HX3 HD3 HP3
    obtain ⟨q, hq⟩ : ∃ q, q = cutP p := ⟨_, rfl⟩
    have HQO := Lib.hid (show q.ok by rw [hq]; exact cutP_ok HP.out)
    have HQK := Lib.hid (show k = q.names.length by rw [hq]; exact HK.out)
    have HQR := Lib.hid (show RS W A k q.names by rw [hq]; exact HR.out)
    rw [← hq] at HX
    clear hq
    have HLV := Lib.hid lives20
    obtain ⟨an, han⟩ : ∃ j, j = (doP s q).1 := ⟨_, rfl⟩
    obtain ⟨bn, hbn⟩ : ∃ j, j = (doP s q).2.1 := ⟨_, rfl⟩
    obtain ⟨sn, hsn⟩ : ∃ j, j = (doP s q).2.2 := ⟨_, rfl⟩
    have HAN := Lib.hid (show an.ok ∧ an.names = [] by rw [han]; exact ⟨(doP_ok HPq.out.cd.2.2.2 HQO.out).1, (doP_ok HPq.out.cd.2.2.2 HQO.out).2.1⟩)
    have HCALL := Lib.hid (show ∀ v, P20 W v pb c d z x y s s → Calls Tryz.prog 16 #[.pointer (some ⟨c, 0, none⟩), .agg (q.cells (.slice A k cc)).toArray] v (fun r w' => r = .returned (.tuple #[.agg (an.cells (.slice none 0 0)).toArray, .bool bn]) ∧ CD w' c x sn ∧ Turn (fun k => x.F k ∨ k = c) v w') from fun v hP => by
      rw [han, hbn, hsn]
      exact card_do hP.cd q HQO.out HQK.out (HQR.out.grow hP.grow) (fun h0 j hj e => by
        have q1 := HQR.out.far h0 j hj
        rcases e with e | e
        · have := hP.xW _ e; omega
        · have := hP.cW; omega))
    have HONCE := Lib.hid (show ∀ s2 : CS, bn = true → an.errno ≠ 31 → s2.side q.client = sn.side q.client → doP s2 q = (an, true, s2.stale) from fun s2 k1 k2 k3 => by
      rw [han] at k2 ⊢
      rw [hbn] at k1
      rw [hsn] at k3
      exact once_is HPq.out.cd.2.2.2 k1 k2 k3)
    clear han hbn hsn
    go_upto_region 9 with (fail)
    try go_simp
    go_cut [9, 10] (fun va vb wx => ∃ u, va = .pointer (some ⟨u, 0, none⟩) ∧ vb = .bool bn ∧ P20 W wx pb c d z x y sn s ∧ Row wx u (an.cells (.slice none 0 0)) ∧ Row wx xb (q.cells (.slice A k cc)) ∧ Row wx db e.cells ∧ Far c d z pb x y W u)
    case first =>
      have hsS := And.intro (HPq.out.row.1.2 1 _ rfl) HX.out.1.range
      refine wp_region_held_drew (S := fun w' => w'.cell? ⟨pb, 1, none⟩ = some (.pointer (some ⟨c, 0, none⟩)) ∧ w'.rangeAt xb 0 (q.cells (.slice A k cc))) (by kernel_rfl) ?_ (fun hHeld => ?_)
      · exact hsS
      clear hsS
      refine wpAnyH_take (i := 0) (oi := _) (v := ?_) rfl (by kernel_rfl) (by kernel_rfl) (by kernel_rfl) (fun _ _ _ h => h) (Or.inl ⟨by rfl, ?_⟩) (by assumption) ?_
      rotate_left
      · (intro w hSw; obtain ⟨q1, -⟩ := hSw; go_simp; (try with_reducible rfl))
      simp only [Act.put, List.getElem_toArray, List.getElem_cons_zero, List.setIfInBounds_toArray, List.set_cons_zero, List.set_cons_succ]
      refine wpAnyH_take (i := 1) (oi := _) (v := ?_) rfl (by kernel_rfl) (by kernel_rfl) (by kernel_rfl) (fun _ _ _ h => h) (Or.inl ⟨by rfl, ?_⟩) (by assumption) ?_
      rotate_left
      · (intro w hSw; obtain ⟨q1, -⟩ := hSw; go_simp; (try with_reducible rfl))
      simp only [Act.put, List.getElem_toArray, List.getElem_cons_succ, List.getElem_cons_zero, List.setIfInBounds_toArray, List.set_cons_zero, List.set_cons_succ]
      refine wpAnyH_take (i := 2) (oi := _) (v := ?_) rfl (by kernel_rfl) (by kernel_rfl) (by kernel_rfl) (fun _ _ _ h => h) (Or.inl ⟨by rfl, ?_⟩) (by assumption) ?_
      rotate_left
      · (intro w hSw; obtain ⟨q1, -⟩ := hSw; go_simp; (try with_reducible rfl))
      simp only [Act.put, List.getElem_toArray, List.getElem_cons_succ, List.getElem_cons_zero, List.setIfInBounds_toArray, List.set_cons_zero, List.set_cons_succ]
      refine wpAnyH_take (i := 3) (oi := _) (v := ?_) rfl (by kernel_rfl) (by kernel_rfl) (by kernel_rfl) (fun _ _ _ h => h) (Or.inl ⟨by rfl, ?_⟩) (by assumption) ?_
      rotate_left
      · (intro w hSw; obtain ⟨q1, -⟩ := hSw; go_simp; (try with_reducible rfl))
      simp only [Act.put, List.getElem_toArray, List.getElem_cons_succ, List.getElem_cons_zero, List.setIfInBounds_toArray, List.set_cons_zero, List.set_cons_succ]
      refine wpAnyH_take (i := 4) (oi := _) (v := .agg (q.cells (.slice A k cc)).toArray) rfl (by kernel_rfl) (by kernel_rfl) (by kernel_rfl) (fun _ _ _ h => h) (yieldsIf_load_mid (by rfl) 39 (.tmp 4) rfl xb 0 (by first | (go_simp; done) | rfl) (q.cells (.slice A k cc)) _ (fun w hS => hS.2) Tryz.underlying39 rfl pk_size) (by assumption) ?_
      simp only [Act.put, List.getElem_toArray, List.getElem_cons_succ, List.getElem_cons_zero, List.setIfInBounds_toArray, List.set_cons_zero, List.set_cons_succ]
      have gdr := (Grow.refl wq).drew
      refine wpAnyH_ready (rs := [5, 9]) (by kernel_rfl) (by simp) ?_
      refine AllReadyH.cons (o := _) rfl (fun K hK => ?_) (AllReadyH.cons (o := _) rfl (fun K hK => ?_) AllReadyH.nil)
      · refine of_wanted (by rfl) ?_
        refine wp_callTo (some 47) rfl 16 #[.pointer (some ⟨c, 0, none⟩), .agg (q.cells (.slice A k cc)).toArray] (by kernel_rfl) _ (HCALL.out wq.drew (HPq.out.keep gdr)) (fun r w' k => ⟨_, k.1⟩) ?_
        rintro v w5 ⟨he, h5, t5⟩
        obtain rfl : v = .tuple #[.agg (an.cells (.slice none 0 0)).toArray, .bool bn] := by injection he
        clear he
        have HP5 := Lib.hid ((HPq.out.keep gdr).card h5 t5)
        have HT5 := Lib.hid ((Turn.grow gdr (fun k => x.F k ∨ k = c)).and t5)
        have HQ5 := Lib.hid ((HX.out.keep gdr).turnW t5 (fun k => k.elim HQF.out.x HQF.out.c))
        have HK05 := Lib.hid ((HD.out.keep gdr).turnW t5 (fun k => k.elim HDF.out.x HDF.out.c))
        refine hK.out _ _ ⟨HP5.out.row.1.2 1 _ rfl, HQ5.out.1.range⟩ (fun hHeld2 => ?_)
        clear hK K h5 t5 hHeld gdr
        simp only [Act.put, List.setIfInBounds_toArray, List.set_cons_zero, List.set_cons_succ]
        refine wpAnyH_take (i := 6) (oi := _) (v := .tuple #[.agg (an.cells (.slice none 0 0)).toArray, .bool bn]) rfl (by kernel_rfl) (by kernel_rfl) (by kernel_rfl) (fun _ _ _ h => h) (Or.inl ⟨by rfl, ?_⟩) (by assumption) ?_
        · (intro w hSw; clear hSw; go_simp; (try with_reducible rfl))
        simp only [Act.put, List.getElem_toArray, List.getElem_cons_succ, List.getElem_cons_zero, List.setIfInBounds_toArray, List.set_cons_zero, List.set_cons_succ]
        refine wpAnyH_take (i := 7) (oi := _) (v := .agg (an.cells (.slice none 0 0)).toArray) rfl (by kernel_rfl) (by kernel_rfl) (by kernel_rfl) (fun _ _ _ h => h) (Or.inl ⟨by rfl, ?_⟩) (by assumption) ?_
        · (intro w hSw; clear hSw; go_simp; (try with_reducible rfl))
        simp only [Act.put, List.getElem_toArray, List.getElem_cons_succ, List.getElem_cons_zero, List.setIfInBounds_toArray, List.set_cons_zero, List.set_cons_succ]
        refine wpAnyH_take (i := 8) (oi := _) (v := .bool bn) rfl (by kernel_rfl) (by kernel_rfl) (by kernel_rfl) (fun _ _ _ h => h) (Or.inl ⟨by rfl, ?_⟩) (by assumption) ?_
        · (intro w hSw; clear hSw; go_simp; (try with_reducible rfl))
        simp only [Act.put, List.getElem_toArray, List.getElem_cons_succ, List.getElem_cons_zero, List.setIfInBounds_toArray, List.set_cons_zero, List.set_cons_succ]
        have hu0 := Row.new w5 39 zP #[.int .i64 0, .int .i64 0, .int .i64 0, .int .i64 0, .int .i64 0, .int .i64 0, .int .i64 0, .string ⟨#[]⟩, .int .i64 0, .int .i64 0, .int .i64 0, .string ⟨#[]⟩, .string ⟨#[]⟩, .int .i64 0, .int .i64 0, .int .i64 0, .int .i64 0, .string ⟨#[]⟩, .int .i64 0, .int .i64 0, .int .i64 0, .int .i64 0, .string ⟨#[]⟩, .slice none 0 0, .int .i64 0, .int .i64 0, .int .i64 0, .int .i64 0, .int .i64 0, .int .i64 0, .int .i64 0, .int .i64 0, .int .i64 0, .int .i64 0, .int .i64 0, .int .i64 0, .int .i64 0, .int .i64 0, .int .i64 0, .int .i64 0, .int .i64 0, .int .i64 0, .int .i64 0] rfl
        have GA := (Grow.refl w5).alloc (.cells #[.int .i64 0, .int .i64 0, .int .i64 0, .int .i64 0, .int .i64 0, .int .i64 0, .int .i64 0, .string ⟨#[]⟩, .int .i64 0, .int .i64 0, .int .i64 0, .string ⟨#[]⟩, .string ⟨#[]⟩, .int .i64 0, .int .i64 0, .int .i64 0, .int .i64 0, .string ⟨#[]⟩, .int .i64 0, .int .i64 0, .int .i64 0, .int .i64 0, .string ⟨#[]⟩, .slice none 0 0, .int .i64 0, .int .i64 0, .int .i64 0, .int .i64 0, .int .i64 0, .int .i64 0, .int .i64 0, .int .i64 0, .int .i64 0, .int .i64 0, .int .i64 0, .int .i64 0, .int .i64 0, .int .i64 0, .int .i64 0, .int .i64 0, .int .i64 0, .int .i64 0, .int .i64 0] 39)
        obtain ⟨w6, hw6⟩ : ∃ j, j = w5.alloc (.cells #[.int .i64 0, .int .i64 0, .int .i64 0, .int .i64 0, .int .i64 0, .int .i64 0, .int .i64 0, .string ⟨#[]⟩, .int .i64 0, .int .i64 0, .int .i64 0, .string ⟨#[]⟩, .string ⟨#[]⟩, .int .i64 0, .int .i64 0, .int .i64 0, .int .i64 0, .string ⟨#[]⟩, .int .i64 0, .int .i64 0, .int .i64 0, .int .i64 0, .string ⟨#[]⟩, .slice none 0 0, .int .i64 0, .int .i64 0, .int .i64 0, .int .i64 0, .int .i64 0, .int .i64 0, .int .i64 0, .int .i64 0, .int .i64 0, .int .i64 0, .int .i64 0, .int .i64 0, .int .i64 0, .int .i64 0, .int .i64 0, .int .i64 0, .int .i64 0, .int .i64 0, .int .i64 0] 39) := ⟨_, rfl⟩
        obtain ⟨u, hu⟩ : ∃ j, j = w5.heap.size := ⟨_, rfl⟩
        rw [← hw6] at hu0 GA
        rw [← hu] at hu0
        have HU0 := Lib.hid hu0
        have HP6 := Lib.hid (HP5.out.keep GA)
        have HT6 := Lib.hid (HT5.out.andGrow GA)
        have HUW := Lib.hid (show wq.heap.size ≤ u by have := HT5.out.size; omega)
        have HQ6 := Lib.hid (HQ5.out.keep GA)
        have HUF := Lib.hid (far20 HP5.out (Nat.le_of_eq hu.symm))
        have hqu : ¬ u = xb := by have := HQ5.out.1.1; omega
        have HK06 := Lib.hid (HK05.out.keep GA)
        have hku0 : ¬ u = db := by have := HK05.out.1.1; omega
        refine wpAnyH_ready (rs := [9]) (by kernel_rfl) (by simp) ?_
        refine AllReadyH.cons (o := _) rfl (fun K hK => ?_) AllReadyH.nil
        refine of_wanted (by rfl) ?_
        refine wp_runTo (some 9) rfl (.pointer (some ⟨u, 0, none⟩)) w6 (by rw [hw6, hu]; kernel_rfl) ?_
        refine hK.out _ _ ⟨HP6.out.row.1.2 1 _ rfl, HQ6.out.1.range⟩ (fun hHeld3 => ?_)
        clear hK K hu0 hw6 hu GA HP5 HQ5 hHeld2
        simp only [Act.put, List.setIfInBounds_toArray, List.set_cons_zero, List.set_cons_succ]
        refine wpAnyH_ready (rs := [10]) (by kernel_rfl) (by simp) ?_
        refine AllReadyH.cons (o := _) rfl (fun K hK => ?_) AllReadyH.nil
        refine of_wanted (by rfl) ?_
        refine wp_store_mid 39 (.tmp 9) (.tmp 48) rfl u 0 (an.cells (.slice none 0 0)).toArray (by rfl) (by rfl) (by rw [List.size_toArray]; exact HU0.out.there (Nat.le_refl 43)) pk_size (all_oneCell_toArray fun v hv => List.all_eq_true.1 (PK.one an rfl) v hv) ?_
        have t7 := setCells_turn u (an.cells (.slice none 0 0)) 0 w6
        have HU7 := Lib.hid (HU0.out.setCells (vs := an.cells (.slice none 0 0)) rfl)
        have HP7 := Lib.hid (HP6.out.far HUF.out t7)
        have HT7 := Lib.hid (HT6.out.trans t7 (fun i e => .inr (by have e' : i = u := e; have := HUW.out; omega)))
        have HQ7 := Lib.hid (HQ6.out.turnW t7 (fun k => hqu k.symm))
        have HK07 := Lib.hid (HK06.out.turnW t7 (fun k => hku0 k.symm))
        refine hK.out _ _ ⟨HP7.out.row.1.2 1 _ rfl, HQ7.out.1.range⟩ (fun hHeld4 => ?_)
        clear hK K t7 HU0 HP6 HQ6 hHeld3
        refine wpAnyH_take (i := 11) (oi := _) (v := .bool bn) rfl (by kernel_rfl) (by kernel_rfl) (by kernel_rfl) (fun _ _ _ h => h) (Or.inl ⟨by rfl, ?_⟩) (by assumption) ?_
        · (intro w hSw; clear hSw; go_simp; (try with_reducible rfl))
        simp only [Act.put, List.getElem_toArray, List.getElem_cons_succ, List.getElem_cons_zero, List.setIfInBounds_toArray, List.set_cons_zero, List.set_cons_succ]
        refine wpAnyH_done (by kernel_rfl) ?_ _
        go_wp2_with fail
        go_meet
        exact ⟨u, rfl, rfl, HP7.out, HU7.out, HQ7.out, HK07.out, HUF.out⟩
      · have hu0 := Row.new wq.drew 39 zP #[.int .i64 0, .int .i64 0, .int .i64 0, .int .i64 0, .int .i64 0, .int .i64 0, .int .i64 0, .string ⟨#[]⟩, .int .i64 0, .int .i64 0, .int .i64 0, .string ⟨#[]⟩, .string ⟨#[]⟩, .int .i64 0, .int .i64 0, .int .i64 0, .int .i64 0, .string ⟨#[]⟩, .int .i64 0, .int .i64 0, .int .i64 0, .int .i64 0, .string ⟨#[]⟩, .slice none 0 0, .int .i64 0, .int .i64 0, .int .i64 0, .int .i64 0, .int .i64 0, .int .i64 0, .int .i64 0, .int .i64 0, .int .i64 0, .int .i64 0, .int .i64 0, .int .i64 0, .int .i64 0, .int .i64 0, .int .i64 0, .int .i64 0, .int .i64 0, .int .i64 0, .int .i64 0] rfl
        have GA := (Grow.refl wq.drew).alloc (.cells #[.int .i64 0, .int .i64 0, .int .i64 0, .int .i64 0, .int .i64 0, .int .i64 0, .int .i64 0, .string ⟨#[]⟩, .int .i64 0, .int .i64 0, .int .i64 0, .string ⟨#[]⟩, .string ⟨#[]⟩, .int .i64 0, .int .i64 0, .int .i64 0, .int .i64 0, .string ⟨#[]⟩, .int .i64 0, .int .i64 0, .int .i64 0, .int .i64 0, .string ⟨#[]⟩, .slice none 0 0, .int .i64 0, .int .i64 0, .int .i64 0, .int .i64 0, .int .i64 0, .int .i64 0, .int .i64 0, .int .i64 0, .int .i64 0, .int .i64 0, .int .i64 0, .int .i64 0, .int .i64 0, .int .i64 0, .int .i64 0, .int .i64 0, .int .i64 0, .int .i64 0, .int .i64 0] 39)
        obtain ⟨w5, hw5⟩ : ∃ j, j = wq.drew.alloc (.cells #[.int .i64 0, .int .i64 0, .int .i64 0, .int .i64 0, .int .i64 0, .int .i64 0, .int .i64 0, .string ⟨#[]⟩, .int .i64 0, .int .i64 0, .int .i64 0, .string ⟨#[]⟩, .string ⟨#[]⟩, .int .i64 0, .int .i64 0, .int .i64 0, .int .i64 0, .string ⟨#[]⟩, .int .i64 0, .int .i64 0, .int .i64 0, .int .i64 0, .string ⟨#[]⟩, .slice none 0 0, .int .i64 0, .int .i64 0, .int .i64 0, .int .i64 0, .int .i64 0, .int .i64 0, .int .i64 0, .int .i64 0, .int .i64 0, .int .i64 0, .int .i64 0, .int .i64 0, .int .i64 0, .int .i64 0, .int .i64 0, .int .i64 0, .int .i64 0, .int .i64 0, .int .i64 0] 39) := ⟨_, rfl⟩
        obtain ⟨u, hu⟩ : ∃ j, j = wq.drew.heap.size := ⟨_, rfl⟩
        rw [← hw5] at hu0 GA
        rw [← hu] at hu0
        have HP5 := Lib.hid (HPq.out.keep (gdr.trans GA))
        have HQ5 := Lib.hid (HX.out.keep (gdr.trans GA))
        have HUF := Lib.hid (far20 (HPq.out.keep gdr) (Nat.le_of_eq hu.symm))
        have HUW := Lib.hid (show wq.heap.size ≤ u from Nat.le_of_eq hu.symm)
        have HT5 := Lib.hid (Turn.grow (gdr.trans GA) (fun k => x.F k ∨ k = c))
        have hqu : ¬ u = xb := by have := (HX.out.keep gdr).1.1; omega
        have HK05 := Lib.hid (HD.out.keep (gdr.trans GA))
        have hku0 : ¬ u = db := by have := (HD.out.keep gdr).1.1; omega
        refine of_wanted (by rfl) ?_
        refine wp_runTo (some 9) rfl (.pointer (some ⟨u, 0, none⟩)) w5 (by rw [hw5, hu]; kernel_rfl) ?_
        refine hK.out _ _ ⟨HP5.out.row.1.2 1 _ rfl, HQ5.out.1.range⟩ (fun hHeld2 => ?_)
        clear hK K hw5 hu GA hHeld gdr
        simp only [Act.put, List.setIfInBounds_toArray, List.set_cons_zero, List.set_cons_succ]
        refine wpAnyH_ready (rs := [5]) (by kernel_rfl) (by simp) ?_
        refine AllReadyH.cons (o := _) rfl (fun K hK => ?_) AllReadyH.nil
        refine of_wanted (by rfl) ?_
        refine wp_callTo (some 47) rfl 16 #[.pointer (some ⟨c, 0, none⟩), .agg (q.cells (.slice A k cc)).toArray] (by kernel_rfl) _ (HCALL.out w5 HP5.out) (fun r w' k => ⟨_, k.1⟩) ?_
        rintro v w6 ⟨he, h5, t5⟩
        obtain rfl : v = .tuple #[.agg (an.cells (.slice none 0 0)).toArray, .bool bn] := by injection he
        clear he
        have HP6 := Lib.hid (HP5.out.card h5 t5)
        have HT6 := Lib.hid (HT5.out.and t5)
        have HQ6 := Lib.hid (HQ5.out.turnW t5 (fun k => k.elim HQF.out.x HQF.out.c))
        have HU0 := Lib.hid (hu0.turnW t5 (fun k => k.elim HUF.out.x HUF.out.c))
        have HK06 := Lib.hid (HK05.out.turnW t5 (fun k => k.elim HDF.out.x HDF.out.c))
        refine hK.out _ _ ⟨HP6.out.row.1.2 1 _ rfl, HQ6.out.1.range⟩ (fun hHeld3 => ?_)
        clear hK K h5 t5 hu0 HP5 HQ5 hHeld2
        simp only [Act.put, List.setIfInBounds_toArray, List.set_cons_zero, List.set_cons_succ]
        refine wpAnyH_take (i := 6) (oi := _) (v := .tuple #[.agg (an.cells (.slice none 0 0)).toArray, .bool bn]) rfl (by kernel_rfl) (by kernel_rfl) (by kernel_rfl) (fun _ _ _ h => h) (Or.inl ⟨by rfl, ?_⟩) (by assumption) ?_
        · (intro w hSw; clear hSw; go_simp; (try with_reducible rfl))
        simp only [Act.put, List.getElem_toArray, List.getElem_cons_succ, List.getElem_cons_zero, List.setIfInBounds_toArray, List.set_cons_zero, List.set_cons_succ]
        refine wpAnyH_take (i := 7) (oi := _) (v := .agg (an.cells (.slice none 0 0)).toArray) rfl (by kernel_rfl) (by kernel_rfl) (by kernel_rfl) (fun _ _ _ h => h) (Or.inl ⟨by rfl, ?_⟩) (by assumption) ?_
        · (intro w hSw; clear hSw; go_simp; (try with_reducible rfl))
        simp only [Act.put, List.getElem_toArray, List.getElem_cons_succ, List.getElem_cons_zero, List.setIfInBounds_toArray, List.set_cons_zero, List.set_cons_succ]
        refine wpAnyH_take (i := 8) (oi := _) (v := .bool bn) rfl (by kernel_rfl) (by kernel_rfl) (by kernel_rfl) (fun _ _ _ h => h) (Or.inl ⟨by rfl, ?_⟩) (by assumption) ?_
        · (intro w hSw; clear hSw; go_simp; (try with_reducible rfl))
        simp only [Act.put, List.getElem_toArray, List.getElem_cons_succ, List.getElem_cons_zero, List.setIfInBounds_toArray, List.set_cons_zero, List.set_cons_succ]
        refine wpAnyH_ready (rs := [10]) (by kernel_rfl) (by simp) ?_
        refine AllReadyH.cons (o := _) rfl (fun K hK => ?_) AllReadyH.nil
        refine of_wanted (by rfl) ?_
        refine wp_store_mid 39 (.tmp 9) (.tmp 48) rfl u 0 (an.cells (.slice none 0 0)).toArray (by rfl) (by rfl) (by rw [List.size_toArray]; exact HU0.out.there (Nat.le_refl 43)) pk_size (all_oneCell_toArray fun v hv => List.all_eq_true.1 (PK.one an rfl) v hv) ?_
        have t7 := setCells_turn u (an.cells (.slice none 0 0)) 0 w6
        have HU7 := Lib.hid (HU0.out.setCells (vs := an.cells (.slice none 0 0)) rfl)
        have HP7 := Lib.hid (HP6.out.far HUF.out t7)
        have HT7 := Lib.hid (HT6.out.trans t7 (fun i e => .inr (by have e' : i = u := e; have := HUW.out; omega)))
        have HQ7 := Lib.hid (HQ6.out.turnW t7 (fun k => hqu k.symm))
        have HK07 := Lib.hid (HK06.out.turnW t7 (fun k => hku0 k.symm))
        refine hK.out _ _ ⟨HP7.out.row.1.2 1 _ rfl, HQ7.out.1.range⟩ (fun hHeld4 => ?_)
        clear hK K t7 HU0 HP6 HQ6 hHeld3
        refine wpAnyH_take (i := 11) (oi := _) (v := .bool bn) rfl (by kernel_rfl) (by kernel_rfl) (by kernel_rfl) (fun _ _ _ h => h) (Or.inl ⟨by rfl, ?_⟩) (by assumption) ?_
        · (intro w hSw; clear hSw; go_simp; (try with_reducible rfl))
        simp only [Act.put, List.getElem_toArray, List.getElem_cons_succ, List.getElem_cons_zero, List.setIfInBounds_toArray, List.set_cons_zero, List.set_cons_succ]
        refine wpAnyH_done (by kernel_rfl) ?_ _
        go_wp2_with fail
        go_meet
        exact ⟨u, rfl, rfl, HP7.out, HU7.out, HQ7.out, HK07.out, HUF.out⟩
    case rest =>
      obtain ⟨u1, rfl, rfl, hp8, hu8, hx8, hd8, hf8⟩ := hcut
      obtain ⟨w8, hw8⟩ : ∃ j, j = wc := ⟨_, rfl⟩
      rw [← hw8] at hp8 hu8 hx8 hd8 ⊢
      have HP8 := Lib.hid hp8
      have HU8 := Lib.hid hu8
      have HX8 := Lib.hid hx8
      have HD8 := Lib.hid hd8
      have HUF := Lib.hid hf8
      clear hw8 hp8 hu8 hx8 hd8 hf8 HCALL HPq HX HD
      have a19 : w8.cell? ⟨u1, 19, none⟩ = some (.int .i64 an.errno) := HU8.out.1.2 19 _ rfl
      have x1 : w8.cell? ⟨xb, 1, none⟩ = some (.int .i64 q.client) := HX8.out.1.2 1 _ rfl
      obtain ⟨cl, hcl⟩ : ∃ j, j = q.client := ⟨_, rfl⟩
      obtain ⟨er, her⟩ : ∃ j, j = an.errno := ⟨_, rfl⟩
      rw [← hcl] at x1
      rw [← her] at a19
      have HCL := Lib.hid hcl
      have HER := Lib.hid her
      clear hcl her
      cases bn with
      | false =>
        go_wp2_with fail
        refine (HLV.out _).mono ?_
        rintro r w9 ⟨rfl, g9⟩
        go_wp2_with fail
        go_ret
        exact ⟨rfl, HP8.out.grow.trans g9⟩
      | true =>
        by_cases h1 : er = 31
        · have z1 : (er == 31) = true := beq_iff_eq.2 h1
          go_wp2_with fail
          refine (HLV.out _).mono ?_
          rintro r w9 ⟨rfl, g9⟩
          go_wp2_with fail
          go_ret
          exact ⟨rfl, HP8.out.grow.trans g9⟩
        have z1 : (er == 31) = false := beq_eq_false_iff_ne.2 h1
        by_cases h2 : cl < 1
        · have z2 : decide (cl < 1) = true := decide_eq_true h2
          go_wp2_with fail
          refine (HLV.out _).mono ?_
          rintro r w9 ⟨rfl, g9⟩
          go_wp2_with fail
          go_ret
          exact ⟨rfl, HP8.out.grow.trans g9⟩
        have z2 : decide (cl < 1) = false := decide_eq_false h2
        by_cases h3 : 8 < cl
        · have z3 : decide (8 < cl) = true := decide_eq_true h3
          go_wp2_with fail
          refine (HLV.out _).mono ?_
          rintro r w9 ⟨rfl, g9⟩
          go_wp2_with fail
          go_ret
          exact ⟨rfl, HP8.out.grow.trans g9⟩
        have z3 : decide (8 < cl) = false := decide_eq_false h3
        have HCB := Lib.hid (show 1 ≤ cl ∧ cl ≤ 8 by omega)
        have HCE := Lib.hid (show ∀ s2 : CS, s2.side cl = sn.side cl → doP s2 q = (an, true, s2.stale) from fun s2 k3 => HONCE.out s2 rfl (by rw [← HER.out]; exact h1) (by rw [← HCL.out]; exact k3))
        have d1 : w8.cell? ⟨db, 1, none⟩ = some (.int .i64 e.p.client) := HD8.out.1.2 1 _ rfl
        have d44 : w8.cell? ⟨db, 44, none⟩ = some (.bool e.crash) := HD8.out.1.2 44 _ rfl
        obtain ⟨dc, hdc⟩ : ∃ j, j = e.p.client := ⟨_, rfl⟩
        obtain ⟨cr, hcr⟩ : ∃ j, j = e.crash := ⟨_, rfl⟩
        rw [← hdc] at d1
        rw [← hcr] at d44
        have HSD := Lib.hid (show cr = false → dc ≠ cl → (stepD sn e).side cl = sn.side cl from fun k1 k2 => by
          unfold stepD
          rw [if_neg (by rw [← hcr, k1]; decide)]
          split
          · exact other_set HCB.out (by rw [← hdc]; exact k2)
          · exact other_do HCB.out (by show e.p.client ≠ cl; rw [← hdc]; exact k2))
        clear hdc hcr HONCE h1 h2 h3
        obtain ⟨bb, hbb⟩ : ∃ j, j = (!decide (dc = cl) && !cr) := ⟨_, rfl⟩
        go_upto_region 12 with (fail)
        go_cut [78] (fun v wx => v = .bool bb ∧ wx = w8)
        case first =>
          clear z1 z2 z3 a19
          by_cases h4 : dc = cl
          · have z4 : (dc != cl) = false := by rw [h4]; exact bne_self_eq_false _
            have hb4 : bb = false := by rw [hbb, decide_eq_true h4]; rfl
            clear hbb h4
            subst hb4
            go_wp2_with fail
            go_meet
            exact ⟨rfl, rfl⟩
          · have z4 : (dc != cl) = true := bne_iff_ne.2 h4
            have hb4 : bb = !cr := by rw [hbb, decide_eq_false h4]; rfl
            clear hbb h4
            subst hb4
            cases cr with
            | true =>
              go_wp2_with fail
              go_meet
              exact ⟨rfl, rfl⟩
            | false =>
              go_wp2_with fail
              go_meet
              exact ⟨rfl, rfl⟩
        case rest =>
          obtain ⟨rfl, hwc⟩ := hcut
          have hwc' := hwc.symm
          subst hwc'
          clear hwc
          have HBB := Lib.hid (show bb = true → cr = false ∧ dc ≠ cl by rw [hbb]; intro k1; rw [Bool.and_eq_true, Bool.not_eq_true', Bool.not_eq_true', decide_eq_false_iff_not] at k1; exact ⟨k1.2, k1.1⟩)
          clear hbb z1 z2 z3 a19 d1 d44 x1
          go_upto_if 78 with (fail)
          go_cut [81] (fun _ wx => ∃ x' s2 t2, P20 W wx pb c d z x' y s2 t2 ∧ s2.side cl = sn.side cl ∧ Row wx u1 (an.cells (.slice none 0 0)) ∧ Row wx xb (q.cells (.slice A k cc)) ∧ Far c d z pb x' y W u1 ∧ Far c d z pb x' y W xb)
          case first =>
            cases bb with
            | false =>
              go_wp2_with fail
              go_meet
              exact ⟨x, sn, s, HP8.out, rfl, HU8.out, HX8.out, HUF.out, HQF.out⟩
            | true =>
              go_upto_region 13 with (fail)
              refine wp_region_list ?_
              refine wpList_runTo rfl (some 79) rfl (.pointer (some ⟨pb, 0, none⟩)) w8 (by first | (go_simp; done) | rfl) ?_
              refine wpList_loadRow rfl 42 (.tmp 5) rfl (some 80) rfl db (by first | (go_simp; done) | rfl) e.cells _ HD8.out.1 Tryz.underlying42 rfl deed_size ?_
              refine wpList_callC rfl (some 81) rfl 7 #[.pointer (some ⟨pb, 0, none⟩), .agg e.cells.toArray] (by go_simp) _ (does20T HP8.out HE.out) (fun r w' k => by obtain ⟨⟨b, k, -⟩, -⟩ := k; exact ⟨_, k⟩) ?_
              rintro v w9 ⟨⟨b, he, -⟩, x', h9⟩
              obtain rfl : v = .bool b := by injection he
              have HP9 := Lib.hid h9
              clear he h9
              go_wp2_with fail
              go_meet
              exact ⟨x', _, _, HP9.out.toP20, HSD.out (HBB.out (by first | trivial | rfl)).1 (HBB.out (by first | trivial | rfl)).2, HP9.out.row' HUF.out HU8.out, HP9.out.row' HQF.out HX8.out, HP9.out.far' HUF.out HU8.out.1.1, HP9.out.far' HQF.out HX8.out.1.1⟩
          case rest =>
            clear HP8 HU8 HX8 HD8 HUF HQF HDF HSD HBB
            obtain ⟨x, s2, t2, hp9, hsd, hu9, hx9, huf, hqf⟩ := hcut
            obtain ⟨w9, hw9⟩ : ∃ j, j = wc := ⟨_, rfl⟩
            rw [← hw9] at hp9 hu9 hx9 ⊢
            have HP9 := Lib.hid hp9
            have HU9 := Lib.hid hu9
            have HX9 := Lib.hid hx9
            have HUF1 := Lib.hid huf
            have HQF := Lib.hid hqf
            have HDO := Lib.hid (HCE.out s2 hsd)
            clear hw9 hp9 hu9 hx9 huf hqf hsd HCE
            have HCALL := Lib.hid (show ∀ v, P20 W v pb c d z x y s2 t2 → Calls Tryz.prog 16 #[.pointer (some ⟨c, 0, none⟩), .agg (q.cells (.slice A k cc)).toArray] v (fun r w' => r = .returned (.tuple #[.agg (an.cells (.slice none 0 0)).toArray, .bool true]) ∧ CD w' c x s2.stale ∧ Turn (fun k => x.F k ∨ k = c) v w') from fun v hP => by
              have k := card_do (cc := cc) hP.cd q HQO.out HQK.out (HQR.out.grow hP.grow) (fun h0 j hj e => by
                have q1 := HQR.out.far h0 j hj
                rcases e with e | e
                · have := hP.xW _ e; omega
                · have := hP.cW; omega)
              rw [HDO.out] at k
              exact k)
            have x1 : w9.cell? ⟨xb, 1, none⟩ = some (.int .i64 cl) := by rw [HCL.out]; exact HX9.out.1.2 1 _ rfl
            have p0 := HP9.out.row.1.2 0 _ rfl
            obtain ⟨fr, hfr⟩ : ∃ j, j = 6784 + 1024 * (cl - 1) := ⟨_, rfl⟩
            have e1 : wrap64 (cl - 1) = cl - 1 := IntWalk.wrap64_in _ (by have := HCB.out; omega)
            have e2 : wrap64 (1024 * (cl - 1)) = 1024 * (cl - 1) := IntWalk.wrap64_in _ (by have := HCB.out; clear e1; omega)
            have e3 : wrap64 (6784 + 1024 * (cl - 1)) = fr := by rw [hfr]; exact IntWalk.wrap64_in _ (by have := HCB.out; clear e1 e2; omega)
            clear hfr
            go_wp2_with fail
            refine (pm_loadU HP9.out.cd.1 fr 1024 (by decide) (by decide)).mono ?_
            rintro r w10 ⟨A6, c6, rfl, o6, g10⟩
            try rw [e3]
            clear e1 e2 e3
            obtain ⟨M, hM⟩ : ∃ j, j = loadM 2896 fr 1024 := ⟨_, rfl⟩
            obtain ⟨LL, hLL⟩ : ∃ j, j = loadL 2896 s2.m.S fr 1024 := ⟨_, rfl⟩
            rw [← hM, ← hLL] at o6
            rw [← hM]
            have HM := Lib.hid hM
            have HLL := Lib.hid hLL
            have HO6 := Lib.hid o6
            have HS6 := Lib.hid (show Sl w10 A6 M LL from o6.sl)
            have HF6 := Lib.hid (show 0 < M → ∀ j, A6 = some j → ¬ (x.F j.block ∨ j.block = c) from fun _ j hj k => by
              subst hj
              have h1 := (World.ownsRow.lt HO6.out.2.2 j.block rfl).1
              have f := far20 HP9.out h1
              exact k.elim f.x f.c)
            have HP10 := Lib.hid (HP9.out.keep g10)
            have HX10 := Lib.hid (HX9.out.keep g10)
            have HU10 := Lib.hid (HU9.out.keep g10)
            clear hM hLL o6 g10 x1 p0 HP9 HX9 HU9 HO6 HCL HER
            go_upto_region 16 with (fail)
            go_cut [14, 15] (fun va vb wx => ∃ u, va = .pointer (some ⟨u, 0, none⟩) ∧ vb = .bool true ∧ P20 W wx pb c d z x y s2.stale t2 ∧ Row wx u (an.cells (.slice none 0 0)) ∧ Row wx u1 (an.cells (.slice none 0 0)) ∧ Turn (fun k => x.F k ∨ k = c) w10 wx)
            case first =>
              have hsS := And.intro (HP10.out.row.1.2 1 _ rfl) HX10.out.1.range
              refine wp_region_held_drew (S := fun w' => w'.cell? ⟨pb, 1, none⟩ = some (.pointer (some ⟨c, 0, none⟩)) ∧ w'.rangeAt xb 0 (q.cells (.slice A k cc))) (by kernel_rfl) ?_ (fun hHeld => ?_)
              · exact hsS
              clear hsS
              refine wpAnyH_take (i := 0) (oi := _) (v := ?_) rfl (by kernel_rfl) (by kernel_rfl) (by kernel_rfl) (fun _ _ _ h => h) (Or.inl ⟨by rfl, ?_⟩) (by assumption) ?_
              rotate_left
              · (intro w hSw; obtain ⟨q1, -⟩ := hSw; go_simp; (try with_reducible rfl))
              simp only [Act.put, List.getElem_toArray, List.getElem_cons_zero, List.setIfInBounds_toArray, List.set_cons_zero, List.set_cons_succ]
              refine wpAnyH_take (i := 1) (oi := _) (v := ?_) rfl (by kernel_rfl) (by kernel_rfl) (by kernel_rfl) (fun _ _ _ h => h) (Or.inl ⟨by rfl, ?_⟩) (by assumption) ?_
              rotate_left
              · (intro w hSw; obtain ⟨q1, -⟩ := hSw; go_simp; (try with_reducible rfl))
              simp only [Act.put, List.getElem_toArray, List.getElem_cons_succ, List.getElem_cons_zero, List.setIfInBounds_toArray, List.set_cons_zero, List.set_cons_succ]
              refine wpAnyH_take (i := 2) (oi := _) (v := ?_) rfl (by kernel_rfl) (by kernel_rfl) (by kernel_rfl) (fun _ _ _ h => h) (Or.inl ⟨by rfl, ?_⟩) (by assumption) ?_
              rotate_left
              · (intro w hSw; obtain ⟨q1, -⟩ := hSw; go_simp; (try with_reducible rfl))
              simp only [Act.put, List.getElem_toArray, List.getElem_cons_succ, List.getElem_cons_zero, List.setIfInBounds_toArray, List.set_cons_zero, List.set_cons_succ]
              refine wpAnyH_take (i := 3) (oi := _) (v := ?_) rfl (by kernel_rfl) (by kernel_rfl) (by kernel_rfl) (fun _ _ _ h => h) (Or.inl ⟨by rfl, ?_⟩) (by assumption) ?_
              rotate_left
              · (intro w hSw; obtain ⟨q1, -⟩ := hSw; go_simp; (try with_reducible rfl))
              simp only [Act.put, List.getElem_toArray, List.getElem_cons_succ, List.getElem_cons_zero, List.setIfInBounds_toArray, List.set_cons_zero, List.set_cons_succ]
              refine wpAnyH_take (i := 4) (oi := _) (v := .agg (q.cells (.slice A k cc)).toArray) rfl (by kernel_rfl) (by kernel_rfl) (by kernel_rfl) (fun _ _ _ h => h) (yieldsIf_load_mid (by rfl) 39 (.tmp 4) rfl xb 0 (by first | (go_simp; done) | rfl) (q.cells (.slice A k cc)) _ (fun w hS => hS.2) Tryz.underlying39 rfl pk_size) (by assumption) ?_
              simp only [Act.put, List.getElem_toArray, List.getElem_cons_succ, List.getElem_cons_zero, List.setIfInBounds_toArray, List.set_cons_zero, List.set_cons_succ]
              have gdr := (Grow.refl w10).drew
              refine wpAnyH_ready (rs := [5, 9]) (by kernel_rfl) (by simp) ?_
              refine AllReadyH.cons (o := _) rfl (fun K hK => ?_) (AllReadyH.cons (o := _) rfl (fun K hK => ?_) AllReadyH.nil)
              · refine of_wanted (by rfl) ?_
                refine wp_callTo (some 102) rfl 16 #[.pointer (some ⟨c, 0, none⟩), .agg (q.cells (.slice A k cc)).toArray] (by kernel_rfl) _ (HCALL.out w10.drew (HP10.out.keep gdr)) (fun r w' k => ⟨_, k.1⟩) ?_
                rintro v w5 ⟨he, h5, t5⟩
                obtain rfl : v = .tuple #[.agg (an.cells (.slice none 0 0)).toArray, .bool true] := by injection he
                clear he
                have HP5 := Lib.hid ((HP10.out.keep gdr).card h5 t5)
                have HT5 := Lib.hid ((Turn.grow gdr (fun k => x.F k ∨ k = c)).and t5)
                have HQ5 := Lib.hid ((HX10.out.keep gdr).turnW t5 (fun k => k.elim HQF.out.x HQF.out.c))
                have HK05 := Lib.hid ((HU10.out.keep gdr).turnW t5 (fun k => k.elim HUF1.out.x HUF1.out.c))
                refine hK.out _ _ ⟨HP5.out.row.1.2 1 _ rfl, HQ5.out.1.range⟩ (fun hHeld2 => ?_)
                clear hK K h5 t5 hHeld gdr
                simp only [Act.put, List.setIfInBounds_toArray, List.set_cons_zero, List.set_cons_succ]
                refine wpAnyH_take (i := 6) (oi := _) (v := .tuple #[.agg (an.cells (.slice none 0 0)).toArray, .bool true]) rfl (by kernel_rfl) (by kernel_rfl) (by kernel_rfl) (fun _ _ _ h => h) (Or.inl ⟨by rfl, ?_⟩) (by assumption) ?_
                · (intro w hSw; clear hSw; go_simp; (try with_reducible rfl))
                simp only [Act.put, List.getElem_toArray, List.getElem_cons_succ, List.getElem_cons_zero, List.setIfInBounds_toArray, List.set_cons_zero, List.set_cons_succ]
                refine wpAnyH_take (i := 7) (oi := _) (v := .agg (an.cells (.slice none 0 0)).toArray) rfl (by kernel_rfl) (by kernel_rfl) (by kernel_rfl) (fun _ _ _ h => h) (Or.inl ⟨by rfl, ?_⟩) (by assumption) ?_
                · (intro w hSw; clear hSw; go_simp; (try with_reducible rfl))
                simp only [Act.put, List.getElem_toArray, List.getElem_cons_succ, List.getElem_cons_zero, List.setIfInBounds_toArray, List.set_cons_zero, List.set_cons_succ]
                refine wpAnyH_take (i := 8) (oi := _) (v := .bool true) rfl (by kernel_rfl) (by kernel_rfl) (by kernel_rfl) (fun _ _ _ h => h) (Or.inl ⟨by rfl, ?_⟩) (by assumption) ?_
                · (intro w hSw; clear hSw; go_simp; (try with_reducible rfl))
                simp only [Act.put, List.getElem_toArray, List.getElem_cons_succ, List.getElem_cons_zero, List.setIfInBounds_toArray, List.set_cons_zero, List.set_cons_succ]
                have hu0 := Row.new w5 39 zP #[.int .i64 0, .int .i64 0, .int .i64 0, .int .i64 0, .int .i64 0, .int .i64 0, .int .i64 0, .string ⟨#[]⟩, .int .i64 0, .int .i64 0, .int .i64 0, .string ⟨#[]⟩, .string ⟨#[]⟩, .int .i64 0, .int .i64 0, .int .i64 0, .int .i64 0, .string ⟨#[]⟩, .int .i64 0, .int .i64 0, .int .i64 0, .int .i64 0, .string ⟨#[]⟩, .slice none 0 0, .int .i64 0, .int .i64 0, .int .i64 0, .int .i64 0, .int .i64 0, .int .i64 0, .int .i64 0, .int .i64 0, .int .i64 0, .int .i64 0, .int .i64 0, .int .i64 0, .int .i64 0, .int .i64 0, .int .i64 0, .int .i64 0, .int .i64 0, .int .i64 0, .int .i64 0] rfl
                have GA := (Grow.refl w5).alloc (.cells #[.int .i64 0, .int .i64 0, .int .i64 0, .int .i64 0, .int .i64 0, .int .i64 0, .int .i64 0, .string ⟨#[]⟩, .int .i64 0, .int .i64 0, .int .i64 0, .string ⟨#[]⟩, .string ⟨#[]⟩, .int .i64 0, .int .i64 0, .int .i64 0, .int .i64 0, .string ⟨#[]⟩, .int .i64 0, .int .i64 0, .int .i64 0, .int .i64 0, .string ⟨#[]⟩, .slice none 0 0, .int .i64 0, .int .i64 0, .int .i64 0, .int .i64 0, .int .i64 0, .int .i64 0, .int .i64 0, .int .i64 0, .int .i64 0, .int .i64 0, .int .i64 0, .int .i64 0, .int .i64 0, .int .i64 0, .int .i64 0, .int .i64 0, .int .i64 0, .int .i64 0, .int .i64 0] 39)
                obtain ⟨w6, hw6⟩ : ∃ j, j = w5.alloc (.cells #[.int .i64 0, .int .i64 0, .int .i64 0, .int .i64 0, .int .i64 0, .int .i64 0, .int .i64 0, .string ⟨#[]⟩, .int .i64 0, .int .i64 0, .int .i64 0, .string ⟨#[]⟩, .string ⟨#[]⟩, .int .i64 0, .int .i64 0, .int .i64 0, .int .i64 0, .string ⟨#[]⟩, .int .i64 0, .int .i64 0, .int .i64 0, .int .i64 0, .string ⟨#[]⟩, .slice none 0 0, .int .i64 0, .int .i64 0, .int .i64 0, .int .i64 0, .int .i64 0, .int .i64 0, .int .i64 0, .int .i64 0, .int .i64 0, .int .i64 0, .int .i64 0, .int .i64 0, .int .i64 0, .int .i64 0, .int .i64 0, .int .i64 0, .int .i64 0, .int .i64 0, .int .i64 0] 39) := ⟨_, rfl⟩
                obtain ⟨u, hu⟩ : ∃ j, j = w5.heap.size := ⟨_, rfl⟩
                rw [← hw6] at hu0 GA
                rw [← hu] at hu0
                have HU0 := Lib.hid hu0
                have HP6 := Lib.hid (HP5.out.keep GA)
                have HT6 := Lib.hid (HT5.out.andGrow GA)
                have HUW := Lib.hid (show w10.heap.size ≤ u by have := HT5.out.size; omega)
                have HQ6 := Lib.hid (HQ5.out.keep GA)
                have HUF := Lib.hid (far20 HP5.out (Nat.le_of_eq hu.symm))
                have hqu : ¬ u = xb := by have := HQ5.out.1.1; omega
                have HK06 := Lib.hid (HK05.out.keep GA)
                have hku0 : ¬ u = u1 := by have := HK05.out.1.1; omega
                refine wpAnyH_ready (rs := [9]) (by kernel_rfl) (by simp) ?_
                refine AllReadyH.cons (o := _) rfl (fun K hK => ?_) AllReadyH.nil
                refine of_wanted (by rfl) ?_
                refine wp_runTo (some 14) rfl (.pointer (some ⟨u, 0, none⟩)) w6 (by rw [hw6, hu]; kernel_rfl) ?_
                refine hK.out _ _ ⟨HP6.out.row.1.2 1 _ rfl, HQ6.out.1.range⟩ (fun hHeld3 => ?_)
                clear hK K hu0 hw6 hu GA HP5 HQ5 hHeld2
                simp only [Act.put, List.setIfInBounds_toArray, List.set_cons_zero, List.set_cons_succ]
                refine wpAnyH_ready (rs := [10]) (by kernel_rfl) (by simp) ?_
                refine AllReadyH.cons (o := _) rfl (fun K hK => ?_) AllReadyH.nil
                refine of_wanted (by rfl) ?_
                refine wp_store_mid 39 (.tmp 14) (.tmp 103) rfl u 0 (an.cells (.slice none 0 0)).toArray (by rfl) (by rfl) (by rw [List.size_toArray]; exact HU0.out.there (Nat.le_refl 43)) pk_size (all_oneCell_toArray fun v hv => List.all_eq_true.1 (PK.one an rfl) v hv) ?_
                have t7 := setCells_turn u (an.cells (.slice none 0 0)) 0 w6
                have HU7 := Lib.hid (HU0.out.setCells (vs := an.cells (.slice none 0 0)) rfl)
                have HP7 := Lib.hid (HP6.out.far HUF.out t7)
                have HT7 := Lib.hid (HT6.out.trans t7 (fun i e => .inr (by have e' : i = u := e; have := HUW.out; omega)))
                have HQ7 := Lib.hid (HQ6.out.turnW t7 (fun k => hqu k.symm))
                have HK07 := Lib.hid (HK06.out.turnW t7 (fun k => hku0 k.symm))
                refine hK.out _ _ ⟨HP7.out.row.1.2 1 _ rfl, HQ7.out.1.range⟩ (fun hHeld4 => ?_)
                clear hK K t7 HU0 HP6 HQ6 hHeld3
                refine wpAnyH_take (i := 11) (oi := _) (v := .bool true) rfl (by kernel_rfl) (by kernel_rfl) (by kernel_rfl) (fun _ _ _ h => h) (Or.inl ⟨by rfl, ?_⟩) (by assumption) ?_
                · (intro w hSw; clear hSw; go_simp; (try with_reducible rfl))
                simp only [Act.put, List.getElem_toArray, List.getElem_cons_succ, List.getElem_cons_zero, List.setIfInBounds_toArray, List.set_cons_zero, List.set_cons_succ]
                refine wpAnyH_done (by kernel_rfl) ?_ _
                go_wp2_with fail
                go_meet
                exact ⟨u, rfl, rfl, HP7.out, HU7.out, HK07.out, HT7.out⟩
              · have hu0 := Row.new w10.drew 39 zP #[.int .i64 0, .int .i64 0, .int .i64 0, .int .i64 0, .int .i64 0, .int .i64 0, .int .i64 0, .string ⟨#[]⟩, .int .i64 0, .int .i64 0, .int .i64 0, .string ⟨#[]⟩, .string ⟨#[]⟩, .int .i64 0, .int .i64 0, .int .i64 0, .int .i64 0, .string ⟨#[]⟩, .int .i64 0, .int .i64 0, .int .i64 0, .int .i64 0, .string ⟨#[]⟩, .slice none 0 0, .int .i64 0, .int .i64 0, .int .i64 0, .int .i64 0, .int .i64 0, .int .i64 0, .int .i64 0, .int .i64 0, .int .i64 0, .int .i64 0, .int .i64 0, .int .i64 0, .int .i64 0, .int .i64 0, .int .i64 0, .int .i64 0, .int .i64 0, .int .i64 0, .int .i64 0] rfl
                have GA := (Grow.refl w10.drew).alloc (.cells #[.int .i64 0, .int .i64 0, .int .i64 0, .int .i64 0, .int .i64 0, .int .i64 0, .int .i64 0, .string ⟨#[]⟩, .int .i64 0, .int .i64 0, .int .i64 0, .string ⟨#[]⟩, .string ⟨#[]⟩, .int .i64 0, .int .i64 0, .int .i64 0, .int .i64 0, .string ⟨#[]⟩, .int .i64 0, .int .i64 0, .int .i64 0, .int .i64 0, .string ⟨#[]⟩, .slice none 0 0, .int .i64 0, .int .i64 0, .int .i64 0, .int .i64 0, .int .i64 0, .int .i64 0, .int .i64 0, .int .i64 0, .int .i64 0, .int .i64 0, .int .i64 0, .int .i64 0, .int .i64 0, .int .i64 0, .int .i64 0, .int .i64 0, .int .i64 0, .int .i64 0, .int .i64 0] 39)
                obtain ⟨w5, hw5⟩ : ∃ j, j = w10.drew.alloc (.cells #[.int .i64 0, .int .i64 0, .int .i64 0, .int .i64 0, .int .i64 0, .int .i64 0, .int .i64 0, .string ⟨#[]⟩, .int .i64 0, .int .i64 0, .int .i64 0, .string ⟨#[]⟩, .string ⟨#[]⟩, .int .i64 0, .int .i64 0, .int .i64 0, .int .i64 0, .string ⟨#[]⟩, .int .i64 0, .int .i64 0, .int .i64 0, .int .i64 0, .string ⟨#[]⟩, .slice none 0 0, .int .i64 0, .int .i64 0, .int .i64 0, .int .i64 0, .int .i64 0, .int .i64 0, .int .i64 0, .int .i64 0, .int .i64 0, .int .i64 0, .int .i64 0, .int .i64 0, .int .i64 0, .int .i64 0, .int .i64 0, .int .i64 0, .int .i64 0, .int .i64 0, .int .i64 0] 39) := ⟨_, rfl⟩
                obtain ⟨u, hu⟩ : ∃ j, j = w10.drew.heap.size := ⟨_, rfl⟩
                rw [← hw5] at hu0 GA
                rw [← hu] at hu0
                have HP5 := Lib.hid (HP10.out.keep (gdr.trans GA))
                have HQ5 := Lib.hid (HX10.out.keep (gdr.trans GA))
                have HUF := Lib.hid (far20 (HP10.out.keep gdr) (Nat.le_of_eq hu.symm))
                have HUW := Lib.hid (show w10.heap.size ≤ u from Nat.le_of_eq hu.symm)
                have HT5 := Lib.hid (Turn.grow (gdr.trans GA) (fun k => x.F k ∨ k = c))
                have hqu : ¬ u = xb := by have := (HX10.out.keep gdr).1.1; omega
                have HK05 := Lib.hid (HU10.out.keep (gdr.trans GA))
                have hku0 : ¬ u = u1 := by have := (HU10.out.keep gdr).1.1; omega
                refine of_wanted (by rfl) ?_
                refine wp_runTo (some 14) rfl (.pointer (some ⟨u, 0, none⟩)) w5 (by rw [hw5, hu]; kernel_rfl) ?_
                refine hK.out _ _ ⟨HP5.out.row.1.2 1 _ rfl, HQ5.out.1.range⟩ (fun hHeld2 => ?_)
                clear hK K hw5 hu GA hHeld gdr
                simp only [Act.put, List.setIfInBounds_toArray, List.set_cons_zero, List.set_cons_succ]
                refine wpAnyH_ready (rs := [5]) (by kernel_rfl) (by simp) ?_
                refine AllReadyH.cons (o := _) rfl (fun K hK => ?_) AllReadyH.nil
                refine of_wanted (by rfl) ?_
                refine wp_callTo (some 102) rfl 16 #[.pointer (some ⟨c, 0, none⟩), .agg (q.cells (.slice A k cc)).toArray] (by kernel_rfl) _ (HCALL.out w5 HP5.out) (fun r w' k => ⟨_, k.1⟩) ?_
                rintro v w6 ⟨he, h5, t5⟩
                obtain rfl : v = .tuple #[.agg (an.cells (.slice none 0 0)).toArray, .bool true] := by injection he
                clear he
                have HP6 := Lib.hid (HP5.out.card h5 t5)
                have HT6 := Lib.hid (HT5.out.and t5)
                have HQ6 := Lib.hid (HQ5.out.turnW t5 (fun k => k.elim HQF.out.x HQF.out.c))
                have HU0 := Lib.hid (hu0.turnW t5 (fun k => k.elim HUF.out.x HUF.out.c))
                have HK06 := Lib.hid (HK05.out.turnW t5 (fun k => k.elim HUF1.out.x HUF1.out.c))
                refine hK.out _ _ ⟨HP6.out.row.1.2 1 _ rfl, HQ6.out.1.range⟩ (fun hHeld3 => ?_)
                clear hK K h5 t5 hu0 HP5 HQ5 hHeld2
                simp only [Act.put, List.setIfInBounds_toArray, List.set_cons_zero, List.set_cons_succ]
                refine wpAnyH_take (i := 6) (oi := _) (v := .tuple #[.agg (an.cells (.slice none 0 0)).toArray, .bool true]) rfl (by kernel_rfl) (by kernel_rfl) (by kernel_rfl) (fun _ _ _ h => h) (Or.inl ⟨by rfl, ?_⟩) (by assumption) ?_
                · (intro w hSw; clear hSw; go_simp; (try with_reducible rfl))
                simp only [Act.put, List.getElem_toArray, List.getElem_cons_succ, List.getElem_cons_zero, List.setIfInBounds_toArray, List.set_cons_zero, List.set_cons_succ]
                refine wpAnyH_take (i := 7) (oi := _) (v := .agg (an.cells (.slice none 0 0)).toArray) rfl (by kernel_rfl) (by kernel_rfl) (by kernel_rfl) (fun _ _ _ h => h) (Or.inl ⟨by rfl, ?_⟩) (by assumption) ?_
                · (intro w hSw; clear hSw; go_simp; (try with_reducible rfl))
                simp only [Act.put, List.getElem_toArray, List.getElem_cons_succ, List.getElem_cons_zero, List.setIfInBounds_toArray, List.set_cons_zero, List.set_cons_succ]
                refine wpAnyH_take (i := 8) (oi := _) (v := .bool true) rfl (by kernel_rfl) (by kernel_rfl) (by kernel_rfl) (fun _ _ _ h => h) (Or.inl ⟨by rfl, ?_⟩) (by assumption) ?_
                · (intro w hSw; clear hSw; go_simp; (try with_reducible rfl))
                simp only [Act.put, List.getElem_toArray, List.getElem_cons_succ, List.getElem_cons_zero, List.setIfInBounds_toArray, List.set_cons_zero, List.set_cons_succ]
                refine wpAnyH_ready (rs := [10]) (by kernel_rfl) (by simp) ?_
                refine AllReadyH.cons (o := _) rfl (fun K hK => ?_) AllReadyH.nil
                refine of_wanted (by rfl) ?_
                refine wp_store_mid 39 (.tmp 14) (.tmp 103) rfl u 0 (an.cells (.slice none 0 0)).toArray (by rfl) (by rfl) (by rw [List.size_toArray]; exact HU0.out.there (Nat.le_refl 43)) pk_size (all_oneCell_toArray fun v hv => List.all_eq_true.1 (PK.one an rfl) v hv) ?_
                have t7 := setCells_turn u (an.cells (.slice none 0 0)) 0 w6
                have HU7 := Lib.hid (HU0.out.setCells (vs := an.cells (.slice none 0 0)) rfl)
                have HP7 := Lib.hid (HP6.out.far HUF.out t7)
                have HT7 := Lib.hid (HT6.out.trans t7 (fun i e => .inr (by have e' : i = u := e; have := HUW.out; omega)))
                have HQ7 := Lib.hid (HQ6.out.turnW t7 (fun k => hqu k.symm))
                have HK07 := Lib.hid (HK06.out.turnW t7 (fun k => hku0 k.symm))
                refine hK.out _ _ ⟨HP7.out.row.1.2 1 _ rfl, HQ7.out.1.range⟩ (fun hHeld4 => ?_)
                clear hK K t7 HU0 HP6 HQ6 hHeld3
                refine wpAnyH_take (i := 11) (oi := _) (v := .bool true) rfl (by kernel_rfl) (by kernel_rfl) (by kernel_rfl) (fun _ _ _ h => h) (Or.inl ⟨by rfl, ?_⟩) (by assumption) ?_
                · (intro w hSw; clear hSw; go_simp; (try with_reducible rfl))
                simp only [Act.put, List.getElem_toArray, List.getElem_cons_succ, List.getElem_cons_zero, List.setIfInBounds_toArray, List.set_cons_zero, List.set_cons_succ]
                refine wpAnyH_done (by kernel_rfl) ?_ _
                go_wp2_with fail
                go_meet
                exact ⟨u, rfl, rfl, HP7.out, HU7.out, HK07.out, HT7.out⟩
            case rest =>
              obtain ⟨u2, rfl, rfl, hp11, hv11, hu11, ht11⟩ := hcut
              obtain ⟨w11, hw11⟩ : ∃ j, j = wc := ⟨_, rfl⟩
              rw [← hw11] at hp11 hv11 hu11 ht11 ⊢
              have HP11 := Lib.hid hp11
              have HV11 := Lib.hid hv11
              have HU11 := Lib.hid hu11
              replace HS6 := Lib.hid (HS6.out.turnW ht11 HF6.out)
              clear hw11 hp11 hv11 hu11 ht11 HCALL HP10 HX10 HU10 HF6 HUF1 HQF
              have p0 := HP11.out.row.1.2 0 _ rfl
              go_wp2_with fail
              refine (pm_loadU HP11.out.cd.1 fr 1024 (by decide) (by decide)).mono ?_
              rintro r w12 ⟨A9, c9, rfl, o9, g12⟩
              rw [← HM.out]
              have HS9 := Lib.hid (show Sl w12 A9 M LL by rw [HM.out, HLL.out]; exact o9.sl)
              have HP12 := Lib.hid (HP11.out.keep g12)
              have HV12 := Lib.hid (HV11.out.keep g12)
              have HU12 := Lib.hid (HU11.out.keep g12)
              replace HS6 := Lib.hid (HS6.out.keep g12)
              clear o9 g12 p0 HP11 HV11 HU11
              go_wp2_with fail
              refine (same_yes HS6.out HS9.out rfl).mono ?_
              rintro r w13 ⟨rfl, k1, rfl⟩
              have G13 := (Grow.refl w12).drewN k1
              have HP13 := Lib.hid (HP12.out.keep G13)
              have HV13 := Lib.hid (HV12.out.keep G13)
              have HU13 := Lib.hid (HU12.out.keep G13)
              obtain ⟨w13, hw13⟩ : ∃ j, j = w12.drewN k1 := ⟨_, rfl⟩
              rw [← hw13] at HP13 HV13 HU13 ⊢
              clear hw13 G13 HP12 HV12 HU12 HS6 HS9
              have hnm : RS w13 none 0 an.names := by rw [HAN.out.2]; exact RS.nil _
              have hln : 0 = an.names.length := by rw [HAN.out.2]; rfl
              have hsame := m_sameK (c := 0) (c' := 0) an an hln hln hnm hnm HAN.out.1 HAN.out.1
              clear hnm hln
              go_upto_region 19 with (fail)
              refine wp_region_list ?_
              refine wpList_loadRow rfl 39 (.tmp 9) rfl (some 117) rfl u1 (by first | (go_simp; done) | rfl) (an.cells (.slice none 0 0)) _ HU13.out.1 Tryz.underlying39 rfl pk_size ?_
              refine wpList_loadRow rfl 39 (.tmp 14) rfl (some 118) rfl u2 (by first | (go_simp; done) | rfl) (an.cells (.slice none 0 0)) _ HV13.out.1 Tryz.underlying39 rfl pk_size ?_
              refine wpList_callC rfl (some 119) rfl 19 #[.agg (an.cells (.slice none 0 0)).toArray, .agg (an.cells (.slice none 0 0)).toArray] (by go_simp) _ hsame (fun r w' k => by obtain ⟨_, k, -⟩ := k; exact ⟨_, k⟩) ?_
              rintro v w14 ⟨b, he, hb, g14⟩
              obtain rfl : v = .bool b := by injection he
              obtain rfl : b = true := by rw [hb.out]; simp
              have HP14 := Lib.hid (HP13.out.keep g14)
              clear he hb g14 hsame HP13 HU13 HV13
              have p1 := HP14.out.row.1.2 1 _ rfl
              go_wp2_with fail
              refine (card_freshC HP14.out.cd).mono ?_
              rintro r w15 ⟨rfl, rfl⟩
              rw [show s2.stale.fresh = false from rfl]
              go_wp2_with fail
              refine (HLV.out _).mono ?_
              rintro r w16 ⟨rfl, g16⟩
              go_wp2_with fail
              go_ret
              exact ⟨rfl, HP14.out.grow.trans g16⟩
end Go.Proofs.YtdlcpfgogjcciaaGreat
