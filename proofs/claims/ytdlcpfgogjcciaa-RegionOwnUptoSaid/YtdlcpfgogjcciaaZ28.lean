/- The walk of the statement RegionOwn. No statement of the seat is proved here. -/
import Derived.Test.YtdlcpfgogjcciaaZ27
namespace Go.Proofs.Ytdlcpfgogjcciaa
open Go.RowKit Go.Great

def OInv (w1 wr : World) (t : Value) : Prop := ∃ i : Nat, t = .int .i64 (i : Int) ∧ i ≤ 23168 ∧ Grow w1 wr
theorem own_at {s : CS} {p : PK} {i : Nat} (h1 : i < s.m.S.length) (h2 : i < (doP s p).2.2.m.S.length) (h : ¬ ((s.m.S[i]'h1).toNat : Int) = (((doP s p).2.2.m.S[i]'h2).toNat : Int)) :
    (1 ≤ p.client ∧ p.client ≤ 8) ∧ 6784 + 1024 * (p.client - 1) ≤ i ∧ (i : Int) < 6784 + 1024 * (p.client - 1) + 1024 := by
  refine own_is (s := s) (p := p) (j := i) fun e => h ?_
  rw [List.getElem?_eq_getElem h1, List.getElem?_eq_getElem h2] at e
  injection e with e
  rw [e]

set_option maxHeartbeats 16000000 in
set_option maxRecDepth 8000 in
theorem law_RegionOwn (A0 : Option Addr) (n0 c0 : Nat) (L : List Dq) (p : PK) (A : Option Addr) (k cc : Nat) (W : World) (hd : DD W A0 n0 L) (hp : p.ok) (hk : k = p.names.length) (hr : RS W A k p.names) :
    Calls Try.prog 3 #[.slice A0 n0 c0, .agg (p.cells (.slice A k cc)).toArray] W fun e w' => e = .returned (.bool true) ∧ Below W.heap.size W w' := by
  obtain ⟨w1, xb, hw1, hxb, b1, g1, hl1⟩ := boxedP W p (.slice A k cc)
  have HDD := Lib.hid hd
  have HP := Lib.hid hp
  have HK := Lib.hid hk
  have HR := Lib.hid hr
  have HX1 := Lib.hid b1
  have HG1 := Lib.hid g1
  have HXW := Lib.hid (And.intro (Nat.le_of_eq hxb.symm) hl1)
  clear hd hp hk hr b1 g1 hl1
  obtain ⟨P0, hP0⟩ : ∃ z, z = (p.cells (.slice A k cc)).toArray := ⟨_, rfl⟩
  rw [← hP0]
  go_enter Try.func3, Try.ntmps3
  go_upto_region 0 with (fail)
  refine wp_region_list ?_
  refine wpList_boxTo rfl 36 (.tmp 1) rfl (some 3) rfl xb hxb.symm P0 rfl ?_
  rw [hP0, show (p.cells (.slice A k cc)).toArray = #[.int .i64 p.kind, .int .i64 p.client, .int .i64 p.epoch, .int .i64 p.seq, .int .i64 p.op, .int .i64 p.at_, .int .i64 p.n, .string p.data, .int .i64 p.old, .int .i64 p.new, .int .i64 p.ckind, .string p.path, .string p.path2, .int .i64 p.flags, .int .i64 p.cfd, .int .i64 p.coff, .int .i64 p.cn, .string p.cdata, .int .i64 p.ino, .int .i64 p.errno, .int .i64 p.rerrno, .int .i64 p.rfd, .string p.rdata, .slice A k cc, .int .i64 p.ikind, .int .i64 p.ilinks, .int .i64 p.isize, .int .i64 p.wrote, .int .i64 p.nkind, .int .i64 p.nlinks, .int .i64 p.nsize, .int .i64 p.b0, .int .i64 p.b1, .int .i64 p.b2, .int .i64 p.b3, .int .i64 p.o0, .int .i64 p.o1, .int .i64 p.o2, .int .i64 p.o3, .int .i64 p.o4, .int .i64 p.o5, .int .i64 p.o6, .int .i64 p.o7] from rfl, ← hw1]
  clear hw1 hxb hP0 P0
  go_wp2_with fail
  refine (begin20 w1).mono ?_
  rintro r w2 ⟨pb, rfl, hB⟩
  have HB0 := Lib.hid hB
  clear hB
  go_upto_block 0 with fail
  go_cut [6] (fun i wx => (∃ k : Int, i = .int .i64 k) ∧ ∃ s, B20 w1 wx pb s)
  case first =>
    go_wp2_with fail
    go_loopw [6] (fun t wr => LInv w1 wr pb n0 15 t) (fun t _ => 15 - (intV t).toNat)
    case atStart => exact ⟨0, rfl, Nat.zero_le _, Nat.zero_le _, _, HB0.out⟩
    case round =>
      obtain ⟨i, rfl, hi, hi2, s, hbo⟩ := hrel
      have HB := Lib.hid hbo
      have HG := Lib.hid (show Grow w1 wr by obtain ⟨_, _, _, _, _, h⟩ := hbo; exact h.grow)
      clear hbo
      by_cases hlt : i < n0
      · by_cases hlt2 : i < 15
        · obtain ⟨b, o, e, rfl, hb, hok, hrg⟩ := HDD.out.at_ hlt
          have HOK := Lib.hid (hok.keep HG1.out)
          have HRG := Lib.hid (range_keep (range_keep hrg HG1.out) HG.out)
          clear hok hrg
          go_upto_region 7 with (fail)
          refine wp_region_list ?_
          refine wpList_runTo rfl (some 26) rfl (.pointer (some ⟨pb, 0, none⟩)) wr (by first | (go_simp; done) | rfl) ?_
          refine wpList_runTo rfl (some 27) rfl (.slice (some ⟨b, o, none⟩) n0 c0) wr (by first | (go_simp; done) | rfl) ?_
          refine wpList_runTo rfl (some 28) rfl (.int .i64 (i : Int)) wr (by first | (go_simp; done) | rfl) ?_
          refine wpList_runTo rfl (some 29) rfl (.pointer (some ⟨b, o + i * 46, none⟩)) wr (by go_simp) ?_
          refine wpList_loadMid rfl 42 (.tmp 29) rfl (some 30) rfl b (o + i * 46) (by first | (go_simp; done) | rfl) e.cells _ HRG.out Try.underlying42 rfl deed_size ?_
          refine wpList_callC rfl (some 31) rfl 5 #[.pointer (some ⟨pb, 0, none⟩), .agg e.cells.toArray] (by go_simp) _ (does20 HB.out HOK.out) (fun r w' k => ⟨_, k.1⟩) ?_
          rintro v w3 ⟨he, hb3⟩
          obtain rfl : v = .bool true := by injection he
          have X : LInv w1 w3 pb n0 15 (.int .i64 ((i : Int) + 1)) := ⟨i + 1, by simp, hlt, hlt2, _, hb3⟩
          have HX := Lib.hid X
          clear he X hb3 HRG HOK HB
          go_wp2_with fail
          go_roundw
          case rel => first | exact HX.out | ((repeat apply Exists.intro); exact HX.out) | ((repeat apply Exists.intro); refine ⟨HX.out, ?_⟩; rfl)
          case measure => first | (simp [intV]; omega)
        · go_wp2_with fail
          go_meet
          exact ⟨⟨_, rfl⟩, s, HB.out⟩
      · go_wp2_with fail
        go_meet
        exact ⟨⟨_, rfl⟩, s, HB.out⟩
  case rest =>
    obtain ⟨⟨ki, rfl⟩, s, c, d, z, x, y, h⟩ := hcut
    obtain ⟨w3, hw3⟩ : ∃ j, j = wc := ⟨_, rfl⟩
    rw [← hw3] at h ⊢
    have HQF := Lib.hid (farLow h HXW.out.2 HXW.out.1)
    have HX3 := Lib.hid (HX1.out.keep h.grow)
    have HP3 := Lib.hid (h.rebase HG1.out)
    clear hw3 h HX1 HB0
    go_upto_region 8 with (fail)
    refine wp_region_list ?_
    refine wpList_loadRow rfl 36 (.tmp 3) rfl (some 32) rfl xb (by first | (go_simp; done) | rfl) (p.cells (.slice A k cc)) _ HX3.out.1 Try.underlying36 rfl pk_size ?_
    refine wpList_callC rfl (some 33) rfl 6 #[.agg (p.cells (.slice A k cc)).toArray] (by go_simp) _ (cut20 p) (fun r w' k => ⟨_, k.1⟩) ?_
    rintro v w4 ⟨he, g4⟩
    obtain rfl : v = .agg ((cutP p).cells (.slice A k cc)).toArray := by injection he
    refine wpList_storeRow rfl 36 (.tmp 3) (.tmp 33) rfl rfl xb (by first | (go_simp; done) | rfl) ((cutP p).cells (.slice A k cc)) (p.cells (.slice A k cc)) (by first | (go_simp; done) | rfl) (HX3.out.keep g4) rfl pk_size (PK.one _ rfl) ?_
    intro w5 r5 t5 z5
    have HX := Lib.hid r5
    have HP5 := Lib.hid ((HP3.out.keep g4).far HQF.out t5)
    clear he g4 r5 t5 z5 HX3 HP3
    obtain ⟨q, hq⟩ : ∃ q, q = cutP p := ⟨_, rfl⟩
    have HQO := Lib.hid (show q.ok by rw [hq]; exact cutP_ok HP.out)
    have HQK := Lib.hid (show k = q.names.length by rw [hq]; exact HK.out)
    have HQR := Lib.hid (show RS W A k q.names by rw [hq]; exact HR.out)
    rw [← hq] at HX
    clear hq
    have HLV := Lib.hid lives20
    have p0 := HP5.out.row.1.2 0 _ rfl
    go_wp2_with fail
    refine (pm_loadU HP5.out.cd.1 0 23168 (by decide) (by decide)).mono ?_
    rintro r w6 ⟨A6, c6, rfl, o6, g6⟩
    rw [(load_all HP5.out.cd.1.lenS).1] at o6 ⊢
    rw [(load_all HP5.out.cd.1.lenS).2] at o6
    have HO6 := Lib.hid (show Own w6 w5.heap.size A6 23168 c6 s.m.S from o6)
    have HF6 := Lib.hid (show 0 < 23168 → ∀ j, A6 = some j → ¬ (x.F j.block ∨ j.block = c) from fun _ j hj k => by
      subst hj
      have h1 := (World.ownsRow.lt HO6.out.2.2 j.block rfl).1
      have f := far20 HP5.out h1
      exact k.elim f.x f.c)
    have HS6 := Lib.hid (show Sl w6 A6 23168 s.m.S from HO6.out.sl)
    have HP6 := Lib.hid (HP5.out.keep g6)
    have HX6 := Lib.hid (HX.out.keep g6)
    clear o6 g6 p0 HO6 HP5 HX
    obtain ⟨an, han⟩ : ∃ j, j = (doP s q).1 := ⟨_, rfl⟩
    obtain ⟨bn, hbn⟩ : ∃ j, j = (doP s q).2.1 := ⟨_, rfl⟩
    obtain ⟨sn, hsn⟩ : ∃ j, j = (doP s q).2.2 := ⟨_, rfl⟩
    have HCALL := Lib.hid (show ∀ v, P20 W v pb c d z x y s s → Calls Try.prog 8 #[.pointer (some ⟨c, 0, none⟩), .agg (q.cells (.slice A k cc)).toArray] v (fun r w' => r = .returned (.tuple #[.agg (an.cells (.slice none 0 0)).toArray, .bool bn]) ∧ CD w' c x sn ∧ Turn (fun k => x.F k ∨ k = c) v w') from fun v hP => by
      rw [han, hbn, hsn]
      exact card_do hP.cd q HQO.out HQK.out (HQR.out.grow hP.grow) (fun h0 j hj e => by
        have q1 := HQR.out.far h0 j hj
        rcases e with e | e
        · have := hP.xW _ e; omega
        · have := hP.cW; omega))
    have HSN := Lib.hid hsn
    clear han hbn hsn
    go_upto_region 10 with (fail)
    go_cut [47] (fun _ wx => P20 W wx pb c d z x y sn s ∧ Row wx xb (q.cells (.slice A k cc)) ∧ Turn (fun k => x.F k ∨ k = c) w6 wx)
    case first =>
      have hsS := And.intro (HP6.out.row.1.2 1 _ rfl) HX6.out.1.range
      refine wp_region_held_drew (S := fun w' => w'.cell? ⟨pb, 1, none⟩ = some (.pointer (some ⟨c, 0, none⟩)) ∧ w'.rangeAt xb 0 (q.cells (.slice A k cc))) (by kernel_rfl) ?_ (fun hHeld => ?_)
      · exact hsS
      clear hsS
      refine wpAnyH_take (i := 0) (oi := _) (v := ?_) rfl (by kernel_rfl) (by kernel_rfl) (by kernel_rfl) (fun _ _ _ h => h) (Or.inl ⟨by rfl, ?_⟩) (by assumption) ?_
      rotate_left
      · (intro w hSw; obtain ⟨q1, -⟩ := hSw; go_simp; (try with_reducible rfl))
      simp only [Act.put, List.getElem_toArray, List.getElem_cons_zero, List.setIfInBounds_toArray, List.set_cons_zero, List.set_cons_succ]
      refine wpAnyH_take (i := 1) (oi := _) (v := ?_) rfl (by kernel_rfl) (by kernel_rfl) (by kernel_rfl) (fun _ _ _ h => h) (Or.inl ⟨by rfl, ?_⟩) (by assumption) ?_
      rotate_left
      · (intro w hSw; obtain ⟨q1, -⟩ := hSw; go_simp; (try with_reducible rfl))
      simp only [Act.put, List.getElem_toArray, List.getElem_cons_succ, List.getElem_cons_zero, List.setIfInBounds_toArray, List.set_cons_zero, List.set_cons_succ]
      refine wpAnyH_take (i := 2) (oi := _) (v := ?_) rfl (by kernel_rfl) (by kernel_rfl) (by kernel_rfl) (fun _ _ _ h => h) (Or.inl ⟨by rfl, ?_⟩) (by assumption) ?_
      rotate_left
      · (intro w hSw; obtain ⟨q1, -⟩ := hSw; go_simp; (try with_reducible rfl))
      simp only [Act.put, List.getElem_toArray, List.getElem_cons_succ, List.getElem_cons_zero, List.setIfInBounds_toArray, List.set_cons_zero, List.set_cons_succ]
      refine wpAnyH_take (i := 3) (oi := _) (v := ?_) rfl (by kernel_rfl) (by kernel_rfl) (by kernel_rfl) (fun _ _ _ h => h) (Or.inl ⟨by rfl, ?_⟩) (by assumption) ?_
      rotate_left
      · (intro w hSw; obtain ⟨q1, -⟩ := hSw; go_simp; (try with_reducible rfl))
      simp only [Act.put, List.getElem_toArray, List.getElem_cons_succ, List.getElem_cons_zero, List.setIfInBounds_toArray, List.set_cons_zero, List.set_cons_succ]
      refine wpAnyH_take (i := 4) (oi := _) (v := .agg (q.cells (.slice A k cc)).toArray) rfl (by kernel_rfl) (by kernel_rfl) (by kernel_rfl) (fun _ _ _ h => h) (yieldsIf_load_mid (by rfl) 36 (.tmp 3) rfl xb 0 (by first | (go_simp; done) | rfl) (q.cells (.slice A k cc)) _ (fun w hS => hS.2) Try.underlying36 rfl pk_size) (by assumption) ?_
      simp only [Act.put, List.getElem_toArray, List.getElem_cons_succ, List.getElem_cons_zero, List.setIfInBounds_toArray, List.set_cons_zero, List.set_cons_succ]
      have gdr := (Grow.refl w6).drew
      refine wpAnyH_ready (rs := [5]) (by kernel_rfl) (by simp) ?_
      refine AllReadyH.cons (o := _) rfl (fun K hK => ?_) AllReadyH.nil
      refine of_wanted (by rfl) ?_
      refine wp_callTo (some 47) rfl 8 #[.pointer (some ⟨c, 0, none⟩), .agg (q.cells (.slice A k cc)).toArray] (by kernel_rfl) _ (HCALL.out w6.drew (HP6.out.keep gdr)) (fun r w' k => ⟨_, k.1⟩) ?_
      rintro v w7 ⟨he, h7, t7⟩
      obtain rfl : v = .tuple #[.agg (an.cells (.slice none 0 0)).toArray, .bool bn] := by injection he
      clear he
      have HP7 := Lib.hid ((HP6.out.keep gdr).card h7 t7)
      have HT7 := Lib.hid ((Turn.grow gdr (fun k => x.F k ∨ k = c)).and t7)
      have HQ7 := Lib.hid ((HX6.out.keep gdr).turnW t7 (fun k => k.elim HQF.out.x HQF.out.c))
      refine hK.out _ _ ⟨HP7.out.row.1.2 1 _ rfl, HQ7.out.1.range⟩ (fun hHeld2 => ?_)
      clear hK K h7 t7 hHeld gdr
      simp only [Act.put, List.setIfInBounds_toArray, List.set_cons_zero, List.set_cons_succ]
      refine wpAnyH_done (by kernel_rfl) ?_ _
      go_wp2_with fail
      go_meet
      exact ⟨HP7.out, HQ7.out, HT7.out⟩
    case rest =>
      obtain ⟨hp8, hx8, ht8⟩ := hcut
      obtain ⟨w8, hw8⟩ : ∃ j, j = wc := ⟨_, rfl⟩
      rw [← hw8] at hp8 hx8 ht8 ⊢
      have HP8 := Lib.hid hp8
      have HX8 := Lib.hid hx8
      replace HS6 := Lib.hid (HS6.out.turnW ht8 HF6.out)
      clear hw8 hp8 hx8 ht8 HCALL HP6 HX6 HF6
      have p0 := HP8.out.row.1.2 0 _ rfl
      go_wp2_with fail
      refine (pm_loadU HP8.out.cd.1 0 23168 (by decide) (by decide)).mono ?_
      rintro r w9 ⟨A9, c9, rfl, o9, g9⟩
      rw [(load_all HP8.out.cd.1.lenS).1] at o9 ⊢
      rw [(load_all HP8.out.cd.1.lenS).2] at o9
      have HS9 := Lib.hid (show Sl w9 A9 23168 sn.m.S from o9.sl)
      have HG9 := Lib.hid (HP8.out.grow.trans g9)
      have HX9 := Lib.hid (HX8.out.keep g9)
      replace HS6 := Lib.hid (HS6.out.keep g9)
      clear o9 g9 p0 HP8 HX8
      have x1 : w9.cell? ⟨xb, 1, none⟩ = some (.int .i64 q.client) := HX9.out.1.2 1 _ rfl
      obtain ⟨cl, hcl⟩ : ∃ j, j = q.client := ⟨_, rfl⟩
      obtain ⟨f1, hf1⟩ : ∃ j, j = wrap64 (cl - 1) := ⟨_, rfl⟩
      obtain ⟨f2, hf2⟩ : ∃ j, j = wrap64 (1024 * f1) := ⟨_, rfl⟩
      obtain ⟨fr, hfr⟩ : ∃ j, j = wrap64 (6784 + f2) := ⟨_, rfl⟩
      rw [← hcl] at x1
      have HFR := Lib.hid (show 1 ≤ cl ∧ cl ≤ 8 → fr = 6784 + 1024 * (cl - 1) from fun hc => by
        have e1 : f1 = cl - 1 := by rw [hf1]; exact IntWalk.wrap64_in _ (by omega)
        have e2 : f2 = 1024 * (cl - 1) := by rw [hf2, e1]; exact IntWalk.wrap64_in _ (by omega)
        rw [hfr, e2]
        exact IntWalk.wrap64_in _ (by omega))
      have HCL := Lib.hid hcl
      have e1 := hf1.symm
      have e2 := hf2.symm
      have e3 := hfr.symm
      clear hcl hf1 hf2 hfr
      obtain ⟨b6, p6, rfl, -, -⟩ := HS6.out.all (by decide)
      obtain ⟨b9, p9, rfl, -, -⟩ := HS9.out.all (by decide)
      have HC := Lib.hid (show ∀ i : Nat, i < 23168 → ∃ v1 v2 : Int, w9.cell? ⟨b6, p6 + i, none⟩ = some (.int .u8 v1) ∧ w9.cell? ⟨b9, p9 + i, none⟩ = some (.int .u8 v2) ∧ (¬ v1 = v2 → fr = 6784 + 1024 * (cl - 1) ∧ (0 ≤ cl - 1 ∧ cl - 1 < 8) ∧ fr ≤ (i : Int) ∧ (i : Int) < fr + 1024) from fun i hi => by
        obtain ⟨b, o, hb, -, h6⟩ := HS6.out.all (by decide)
        obtain ⟨b', o', hb', -, h9⟩ := HS9.out.all (by decide)
        injection hb with hb
        injection hb with hb hb2
        injection hb' with hb'
        injection hb' with hb' hb2'
        subst hb hb2 hb' hb2'
        refine ⟨_, _, h6 i hi, h9 i hi, fun hn => ?_⟩
        have l6 := HS6.out.1
        have l9 := HS9.out.1
        have l9' : i < (doP s q).2.2.m.S.length := by rw [← HSN.out]; omega
        have hn' : ¬ ((s.m.S[i]'(by omega)).toNat : Int) = (((doP s q).2.2.m.S[i]'l9').toNat : Int) := by
          have hE := HSN.out
          subst hE
          exact hn
        obtain ⟨k1, k2, k3⟩ := own_at _ _ hn'
        rw [← HCL.out] at k1 k2 k3
        have := HFR.out k1
        exact ⟨this, by omega, by omega, by omega⟩)
      clear HFR
      go_upto_block 2 with fail
      try rw [e3]
      clear e1 e2 e3 x1 HX9 HCL
      go_cut [12] (fun i wx => (∃ k : Int, i = .int .i64 k) ∧ Grow w9 wx)
      case first =>
        go_wp2_with fail
        go_loopw [12] (fun t wr => OInv w9 wr t) (fun t _ => 23168 - (intV t).toNat)
        case atStart => exact ⟨0, rfl, Nat.zero_le _, Grow.refl _⟩
        case round =>
          obtain ⟨i, rfl, hi, hg⟩ := hrel
          have HG := Lib.hid hg
          clear hg
          by_cases hlt : i < 23168
          · obtain ⟨v1, v2, hc6, hc9, hne⟩ := HC.out i hlt
            replace hc6 := HG.out.cell hc6
            replace hc9 := HG.out.cell hc9
            have HNE := Lib.hid hne
            clear hne
            have zi : decide ((i : Int) < 23168) = true := decide_eq_true (by omega)
            have X : ∀ k, OInv w9 (wr.drewN k) (.int .i64 ((i : Int) + 1)) := fun k => ⟨i + 1, by simp, hlt, HG.out.drewN k⟩
            have HX := Lib.hid X
            clear X
            by_cases hv : v1 = v2
            · have z1 : (v1 != v2) = false := by rw [hv]; exact bne_self_eq_false _
              clear hv
              go_upto_region 18 with (fail)
              go_quiet (fail)
              go_wp2_with fail
              go_roundw
              case rel => first | exact HX.out _ | ((repeat apply Exists.intro); exact HX.out _) | ((repeat apply Exists.intro); refine ⟨HX.out _, ?_⟩; rfl)
              case measure => first | (simp [intV]; omega)
            · have z1 : (v1 != v2) = true := bne_iff_ne.2 hv
              obtain ⟨k1, k2, k3, k4⟩ := HNE.out hv
              have z2 : decide ((i : Int) < fr) = false := decide_eq_false (by omega)
              have z3 : decide (fr + 1024 ≤ (i : Int)) = false := decide_eq_false (by omega)
              have e4 : wrap64 (fr + 1024) = fr + 1024 := IntWalk.wrap64_in _ (by omega)
              have e5 : IntKind.i64.wrap (fr + 1024) = fr + 1024 := IntWalk.i64_in _ (by clear e4; omega)
              clear hv k1 k2 k3 k4
              go_upto_region 18 with (fail)
              go_quiet (fail)
              go_wp2_with fail
              go_roundw
              case rel => first | exact HX.out _ | ((repeat apply Exists.intro); exact HX.out _) | ((repeat apply Exists.intro); refine ⟨HX.out _, ?_⟩; rfl)
              case measure => (clear e4 e5; simp [intV]; omega)
          · have zi : decide ((i : Int) < 23168) = false := decide_eq_false (by omega)
            go_wp2_with fail
            go_meet
            exact ⟨⟨_, rfl⟩, HG.out⟩
      case rest =>
        obtain ⟨⟨kj, rfl⟩, hg⟩ := hcut
        have HG := Lib.hid (HG9.out.trans hg)
        clear hg
        go_wp2_with fail
        refine (HLV.out _).mono ?_
        rintro r w14 ⟨rfl, g14⟩
        go_wp2_with fail
        go_ret
        exact ⟨rfl, HG.out.trans g14⟩
end Go.Proofs.Ytdlcpfgogjcciaa
