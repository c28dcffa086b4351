/- commonsref20.Card.Do. No statement of the seat is proved here. -/
import Derived.Test.YtdlcpfgogjcciaaZ21
namespace Go.Proofs.Ytdlcpfgogjcciaa
open Go.RowKit Go.Great

set_option maxHeartbeats 16000000 in
set_option maxRecDepth 8000 in
theorem ref_do {W : World} {d z : Nat} {y : MB} {s : CS} (h : RD20 W d z y s) (p : PK) (hp : p.ok) {A : Option Addr} {k cc : Nat} (hk : k = p.names.length) (hr : RS W A k p.names) (hA : 0 < k → ∀ q, A = some q → ¬ (y.F q.block ∨ q.block = d ∨ q.block = z)) :
    Calls Try.prog 17 #[.pointer (some ⟨d, 0, none⟩), .agg (p.cells (.slice A k cc)).toArray] W fun e w' => e = .returned (.tuple #[.agg ((doP s p).1.cells (.slice none 0 0)).toArray, .bool (doP s p).2.1]) ∧ RD20 w' d z y (doP s p).2.2 ∧ Turn (fun k => y.F k ∨ k = d ∨ k = z) W w' := by
  obtain ⟨m, L, f⟩ := s
  obtain ⟨h1, h2, h3, h4, h5, h6, h7⟩ := h
  have HOK := Lib.hid h7
  have HP := Lib.hid hp
  have HK := Lib.hid hk
  have HR0 := Lib.hid hr
  have HA := Lib.hid hA
  obtain ⟨w1, b, hw1, hb, b1, g1, hl1⟩ := boxedP W p (.slice A k cc)
  have hz := Row.new w1 36 zP #[.int .i64 0, .int .i64 0, .int .i64 0, .int .i64 0, .int .i64 0, .int .i64 0, .int .i64 0, .string ⟨#[]⟩, .int .i64 0, .int .i64 0, .int .i64 0, .string ⟨#[]⟩, .string ⟨#[]⟩, .int .i64 0, .int .i64 0, .int .i64 0, .int .i64 0, .string ⟨#[]⟩, .int .i64 0, .int .i64 0, .int .i64 0, .int .i64 0, .string ⟨#[]⟩, .slice none 0 0, .int .i64 0, .int .i64 0, .int .i64 0, .int .i64 0, .int .i64 0, .int .i64 0, .int .i64 0, .int .i64 0, .int .i64 0, .int .i64 0, .int .i64 0, .int .i64 0, .int .i64 0, .int .i64 0, .int .i64 0, .int .i64 0, .int .i64 0, .int .i64 0, .int .i64 0] rfl
  have gz := (Grow.refl w1).alloc (.cells #[.int .i64 0, .int .i64 0, .int .i64 0, .int .i64 0, .int .i64 0, .int .i64 0, .int .i64 0, .string ⟨#[]⟩, .int .i64 0, .int .i64 0, .int .i64 0, .string ⟨#[]⟩, .string ⟨#[]⟩, .int .i64 0, .int .i64 0, .int .i64 0, .int .i64 0, .string ⟨#[]⟩, .int .i64 0, .int .i64 0, .int .i64 0, .int .i64 0, .string ⟨#[]⟩, .slice none 0 0, .int .i64 0, .int .i64 0, .int .i64 0, .int .i64 0, .int .i64 0, .int .i64 0, .int .i64 0, .int .i64 0, .int .i64 0, .int .i64 0, .int .i64 0, .int .i64 0, .int .i64 0, .int .i64 0, .int .i64 0, .int .i64 0, .int .i64 0, .int .i64 0, .int .i64 0] 36)
  obtain ⟨w2, hw2⟩ : ∃ z, z = w1.alloc (.cells #[.int .i64 0, .int .i64 0, .int .i64 0, .int .i64 0, .int .i64 0, .int .i64 0, .int .i64 0, .string ⟨#[]⟩, .int .i64 0, .int .i64 0, .int .i64 0, .string ⟨#[]⟩, .string ⟨#[]⟩, .int .i64 0, .int .i64 0, .int .i64 0, .int .i64 0, .string ⟨#[]⟩, .int .i64 0, .int .i64 0, .int .i64 0, .int .i64 0, .string ⟨#[]⟩, .slice none 0 0, .int .i64 0, .int .i64 0, .int .i64 0, .int .i64 0, .int .i64 0, .int .i64 0, .int .i64 0, .int .i64 0, .int .i64 0, .int .i64 0, .int .i64 0, .int .i64 0, .int .i64 0, .int .i64 0, .int .i64 0, .int .i64 0, .int .i64 0, .int .i64 0, .int .i64 0] 36) := ⟨_, rfl⟩
  obtain ⟨r, hr'⟩ : ∃ z, z = w1.heap.size := ⟨_, rfl⟩
  rw [← hw2] at hz gz
  rw [← hr'] at hz
  have hdl := h2.1.1
  have hzl := h3.1.1
  have HD := Lib.hid (show RoS W w2 d z b r y m L f p (.slice A k cc) zP from
    { mem := h1.keep (g1.trans gz), hd := h2.keep (g1.trans gz), hz := h3.keep (g1.trans gz), pk := b1.keep gz, res := hz, turn := Turn.grow (g1.trans gz) _, dF := h4, zF := h5,
      bF := fun q => by have := h1.lt _ q; omega, rF := fun q => by have := h1.lt _ q; have := g1.size; omega, dz := h6, bd := by omega, bz := by omega, rd := by have := g1.size; omega, rz := by have := g1.size; omega, rb := by omega,
      hb := by omega, hr := by have := g1.size; omega, len := h7.len })
  have HW2 := Lib.hid hw2
  have HRR := Lib.hid hr'
  clear h1 h2 h3 h4 h5 h6 h7 hp hk hr hA b1 g1 hz gz hdl hzl hw2 hr'
  obtain ⟨P0, hP0⟩ : ∃ z, z = (p.cells (.slice A k cc)).toArray := ⟨_, rfl⟩
  rw [← hP0]
  go_enter Try.func17, Try.ntmps17
  go_upto_region 0 with (fail)
  refine wp_region_list ?_
  refine wpList_boxTo rfl 36 (.tmp 1) rfl (some 3) rfl b hb.symm P0 rfl ?_
  rw [hP0, show (p.cells (.slice A k cc)).toArray = #[.int .i64 p.kind, .int .i64 p.client, .int .i64 p.epoch, .int .i64 p.seq, .int .i64 p.op, .int .i64 p.at_, .int .i64 p.n, .string p.data, .int .i64 p.old, .int .i64 p.new, .int .i64 p.ckind, .string p.path, .string p.path2, .int .i64 p.flags, .int .i64 p.cfd, .int .i64 p.coff, .int .i64 p.cn, .string p.cdata, .int .i64 p.ino, .int .i64 p.errno, .int .i64 p.rerrno, .int .i64 p.rfd, .string p.rdata, .slice A k cc, .int .i64 p.ikind, .int .i64 p.ilinks, .int .i64 p.isize, .int .i64 p.wrote, .int .i64 p.nkind, .int .i64 p.nlinks, .int .i64 p.nsize, .int .i64 p.b0, .int .i64 p.b1, .int .i64 p.b2, .int .i64 p.b3, .int .i64 p.o0, .int .i64 p.o1, .int .i64 p.o2, .int .i64 p.o3, .int .i64 p.o4, .int .i64 p.o5, .int .i64 p.o6, .int .i64 p.o7] from rfl, ← hw1]
  clear hw1 hb hP0 P0
  go_simp
  refine wpList_allocTo rfl (some 4) rfl (.pointer (some ⟨r, 0, none⟩)) (.cells #[.int .i64 0, .int .i64 0, .int .i64 0, .int .i64 0, .int .i64 0, .int .i64 0, .int .i64 0, .string ⟨#[]⟩, .int .i64 0, .int .i64 0, .int .i64 0, .string ⟨#[]⟩, .string ⟨#[]⟩, .int .i64 0, .int .i64 0, .int .i64 0, .int .i64 0, .string ⟨#[]⟩, .int .i64 0, .int .i64 0, .int .i64 0, .int .i64 0, .string ⟨#[]⟩, .slice none 0 0, .int .i64 0, .int .i64 0, .int .i64 0, .int .i64 0, .int .i64 0, .int .i64 0, .int .i64 0, .int .i64 0, .int .i64 0, .int .i64 0, .int .i64 0, .int .i64 0, .int .i64 0, .int .i64 0, .int .i64 0, .int .i64 0, .int .i64 0, .int .i64 0, .int .i64 0] 36) (by rw [HRR.out]; kernel_rfl) ?_
  rw [← HW2.out]
  clear HW2 HRR hl1
  obtain ⟨d2, f2⟩ := HD.out.fresh
  go_upto_region 2 with (fail)
  replace HD := Lib.hid (HD.out.setFresh false)
  obtain ⟨w3, hw3⟩ : ∃ z, z = w2.setCell ⟨d, 2, none⟩ (.bool false) := ⟨_, rfl⟩
  rw [← hw3] at HD ⊢
  clear hw3 d2 f2
  have HR3 := Lib.hid (HR0.out.turnW HD.out.turn HA.out)
  have hput := m_putK (c := cc) p HP.out HK.out HR3.out
  refine wp_region_list ?_
  refine wpList_loadRow rfl 36 (.tmp 3) rfl (some 15) rfl b rfl (p.cells (.slice A k cc)) _ HD.out.pk.1 Try.underlying36 rfl pk_size ?_
  go_simp
  refine wpList_callC rfl (some 16) rfl 35 #[.agg (p.cells (.slice A k cc)).toArray] (by first | rfl | go_simp) _ hput (fun e w' h => by obtain ⟨_, _, _, h, -⟩ := h; exact ⟨_, h⟩) ?_
  rintro v w4 ⟨A4, n4, c4, he, ho, G4⟩
  obtain rfl : v = .tuple #[.slice A4 n4 c4, .int .i64 (putE p)] := by injection he
  have HD4 := Lib.hid (HD.out.keep G4)
  clear he ho hput G4 HR3 HD
  go_simp
  obtain ⟨pe, hpe⟩ : ∃ z, z = putE p := ⟨_, rfl⟩
  rw [← hpe]
  have HPE := Lib.hid hpe
  clear hpe
  go_upto_region 3 with (fail)
  have x0 := HD4.out.pk.1.2 0 _ rfl
  by_cases h0 : pe = 0
  rotate_left
  · have z0 : (pe != 0) = true := bne_iff_ne.2 h0
    have z1 : ¬ pe = 0 := h0
    have HN := Lib.hid (show ∀ s : CS, doP s p = ({}, false, s.stale) from fun s => by unfold doP; rw [if_neg (by rw [← HPE.out]; exact fun e => h0 e.1)])
    go_upto_region 4 with (fail)
    refine wp_region_list ?_
    refine wpList_buildTo rfl 36 #[] rfl (some 26) rfl zP.toArray (by kernel_rfl) ?_
    go_simp
    refine wpList_storeRow rfl 36 (.tmp 4) (.tmp 26) rfl rfl r rfl zP zP rfl HD4.out.res rfl pk_size zP_one ?_
    intro wz rz tz sz
    have HZ := Lib.hid (HD4.out.setRes rz tz)
    clear rz tz sz
    go_wp2_with fail
    refine bodyPost_ret (ref_ret rfl rfl HZ.out.res.1 rfl) rfl ?_
    rw [HN.out]
    exact ⟨rfl, HZ.out.rd20 HOK.out.sides, HZ.out.turn⟩
  subst h0
  by_cases hkd : p.kind = 1
  rotate_left
  · have z0 : (p.kind != 1) = true := bne_iff_ne.2 hkd
    have HN := Lib.hid (show ∀ s : CS, doP s p = ({}, false, s.stale) from fun s => by unfold doP; rw [if_neg (fun e => hkd e.2)])
    go_upto_region 4 with (fail)
    refine wp_region_list ?_
    refine wpList_buildTo rfl 36 #[] rfl (some 26) rfl zP.toArray (by kernel_rfl) ?_
    go_simp
    refine wpList_storeRow rfl 36 (.tmp 4) (.tmp 26) rfl rfl r rfl zP zP rfl HD4.out.res rfl pk_size zP_one ?_
    intro wz rz tz sz
    have HZ := Lib.hid (HD4.out.setRes rz tz)
    clear rz tz sz
    go_wp2_with fail
    refine bodyPost_ret (ref_ret rfl rfl HZ.out.res.1 rfl) rfl ?_
    rw [HN.out]
    exact ⟨rfl, HZ.out.rd20 HOK.out.sides, HZ.out.turn⟩
  have HASK := Lib.hid (askOk HPE.out.symm hkd)
  have z0 : (p.kind != 1) = false := by rw [hkd]; rfl
  have HKD := Lib.hid hkd
  have x1 := HD4.out.pk.1.2 1 _ rfl
  have hcl := HASK.out.client
  have e1 : wrap64 (p.client - 1) = p.client - 1 := IntWalk.wrap64_in _ (by omega)
  have b0 : 0 ≤ p.client - 1 := by omega
  have b1 : p.client - 1 < 8 := by omega
  have b2 : (p.client - 1).toNat < 8 := by omega
  go_upto_region 5 with (fail)
  have HAT := Lib.hid (show L[(p.client - 1).toNat]? = some ((CS.mk m L f).side p.client) from HOK.out.at HASK.out.client)
  obtain ⟨sd, hsd⟩ : ∃ z, z = (CS.mk m L f).side p.client := ⟨_, rfl⟩
  rw [← hsd] at HAT
  have HSD := Lib.hid hsd
  clear hsd x0 z0
  obtain ⟨q, hq⟩ : ∃ q, q = (p.client.toNat - 1) * 46 := ⟨_, rfl⟩
  have HQ := Lib.hid (show q = 46 * (p.client - 1).toNat by omega)
  have e6 : IntKind.i64.wrap (p.client - 1) = p.client - 1 := IntWalk.i64_in _ (by clear e1; omega)
  have hsS := And.intro (HD4.out.hd.1.2 1 _ rfl) (And.intro x1 (HD4.out.side HAT.out HQ.out))
  refine wp_region_held_drew (S := fun w' => w'.cell? ⟨d, 1, none⟩ = some (.slice (some ⟨z, 0, none⟩) 8 8) ∧ w'.cell? ⟨b, 1, none⟩ = some (.int .i64 p.client) ∧ w'.rangeAt z q sd.cells) (by kernel_rfl) ?_ (fun hHeld => ?_)
  · exact hsS
  refine wpAnyH_take (i := 0) (oi := _) (v := ?_) rfl (by kernel_rfl) (by kernel_rfl) (by kernel_rfl) (fun _ _ _ h => h) (Or.inl ⟨by rfl, ?_⟩) (by assumption) ?_
  rotate_left
  · (intro w hSw; (try dsimp only at hSw); go_simp; (try with_reducible rfl))
  simp only [Act.put, List.getElem_toArray, List.getElem_cons_zero, List.setIfInBounds_toArray, List.set_cons_zero, List.set_cons_succ]
  refine wpAnyH_take (i := 1) (oi := _) (v := ?_) rfl (by kernel_rfl) (by kernel_rfl) (by kernel_rfl) (fun _ _ _ h => h) (Or.inl ⟨by rfl, ?_⟩) (by assumption) ?_
  rotate_left
  · (intro w hSw; (try dsimp only at hSw); go_simp; (try with_reducible rfl))
  simp only [Act.put, List.getElem_toArray, List.getElem_cons_succ, List.getElem_cons_zero, List.setIfInBounds_toArray, List.set_cons_zero, List.set_cons_succ]
  refine wpAnyH_take (i := 2) (oi := _) (v := ?_) rfl (by kernel_rfl) (by kernel_rfl) (by kernel_rfl) (fun _ _ _ h => h) (Or.inl ⟨by rfl, ?_⟩) (by assumption) ?_
  rotate_left
  · (intro w hSw; (try dsimp only at hSw); go_simp; (try with_reducible rfl))
  simp only [Act.put, List.getElem_toArray, List.getElem_cons_succ, List.getElem_cons_zero, List.setIfInBounds_toArray, List.set_cons_zero, List.set_cons_succ]
  refine wpAnyH_take (i := 3) (oi := _) (v := ?_) rfl (by kernel_rfl) (by kernel_rfl) (by kernel_rfl) (fun _ _ _ h => h) (Or.inl ⟨by rfl, ?_⟩) (by assumption) ?_
  rotate_left
  · (intro w hSw; (try dsimp only at hSw); go_simp; (try with_reducible rfl))
  simp only [Act.put, List.getElem_toArray, List.getElem_cons_succ, List.getElem_cons_zero, List.setIfInBounds_toArray, List.set_cons_zero, List.set_cons_succ]
  refine wpAnyH_take (i := 4) (oi := _) (v := ?_) rfl (by kernel_rfl) (by kernel_rfl) (by kernel_rfl) (fun _ _ _ h => h) (Or.inl ⟨by rfl, ?_⟩) (by assumption) ?_
  rotate_left
  · (intro w hSw; (try dsimp only at hSw); go_simp; (try with_reducible rfl))
  simp only [Act.put, List.getElem_toArray, List.getElem_cons_succ, List.getElem_cons_zero, List.setIfInBounds_toArray, List.set_cons_zero, List.set_cons_succ]
  refine wpAnyH_take (i := 5) (oi := _) (v := ?_) rfl (by kernel_rfl) (by kernel_rfl) (by kernel_rfl) (fun _ _ _ h => h) (Or.inl ⟨by rfl, ?_⟩) (by assumption) ?_
  rotate_left
  · (intro w hSw; (try dsimp only at hSw); go_simp; (try with_reducible rfl))
  simp only [Act.put, List.getElem_toArray, List.getElem_cons_succ, List.getElem_cons_zero, List.setIfInBounds_toArray, List.set_cons_zero, List.set_cons_succ]
  refine wpAnyH_take (i := 6) (oi := _) (v := .int .i64 (p.client - 1)) rfl (by kernel_rfl) (by kernel_rfl) (by kernel_rfl) (fun _ _ _ h => h) (Or.inl ⟨by rfl, ?_⟩) (by assumption) ?_
  · (intro w hSw; clear hSw; go_simp)
  simp only [Act.put, List.getElem_toArray, List.getElem_cons_succ, List.getElem_cons_zero, List.setIfInBounds_toArray, List.set_cons_zero, List.set_cons_succ]
  refine wpAnyH_take (i := 7) (oi := _) (v := .pointer (some ⟨z, q, none⟩)) rfl (by kernel_rfl) (by kernel_rfl) (by kernel_rfl) (fun _ _ _ h => h) (Or.inl ⟨by rfl, ?_⟩) (by assumption) ?_
  · (intro w hSw; rw [hq]; clear hSw; go_simp)
  simp only [Act.put, List.getElem_toArray, List.getElem_cons_succ, List.getElem_cons_zero, List.setIfInBounds_toArray, List.set_cons_zero, List.set_cons_succ]
  refine wpAnyH_take (i := 8) (oi := _) (v := .agg sd.cells.toArray) rfl (by kernel_rfl) (by kernel_rfl) (by kernel_rfl) (fun _ _ _ h => h) (yieldsIf_load_mid (by rfl) 64 (.tmp 34) rfl z q (by first | (go_simp; done) | rfl) sd.cells _ (fun w hS => hS.2.2) Try.underlying64 rfl sd_size) (by assumption) ?_
  simp only [Act.put, List.getElem_toArray, List.getElem_cons_succ, List.getElem_cons_zero, List.setIfInBounds_toArray, List.set_cons_zero, List.set_cons_succ]
  have gd := (Grow.refl w4).drew
  have hh0 := Row.new w4.drew 64 (({} : Sd).cells) #[.int .i64 0, .int .i64 0, .int .i64 0, .int .i64 0, .int .i64 0, .int .i64 0, .int .i64 0, .int .i64 0, .int .i64 0, .string ⟨#[]⟩, .int .i64 0, .int .i64 0, .int .i64 0, .string ⟨#[]⟩, .string ⟨#[]⟩, .int .i64 0, .int .i64 0, .int .i64 0, .int .i64 0, .string ⟨#[]⟩, .int .i64 0, .int .i64 0, .int .i64 0, .int .i64 0, .string ⟨#[]⟩, .slice none 0 0, .int .i64 0, .int .i64 0, .int .i64 0, .int .i64 0, .int .i64 0, .int .i64 0, .int .i64 0, .int .i64 0, .int .i64 0, .int .i64 0, .int .i64 0, .int .i64 0, .int .i64 0, .int .i64 0, .int .i64 0, .int .i64 0, .int .i64 0, .int .i64 0, .int .i64 0, .bool false] rfl
  have ga := (Grow.refl w4.drew).alloc (.cells #[.int .i64 0, .int .i64 0, .int .i64 0, .int .i64 0, .int .i64 0, .int .i64 0, .int .i64 0, .int .i64 0, .int .i64 0, .string ⟨#[]⟩, .int .i64 0, .int .i64 0, .int .i64 0, .string ⟨#[]⟩, .string ⟨#[]⟩, .int .i64 0, .int .i64 0, .int .i64 0, .int .i64 0, .string ⟨#[]⟩, .int .i64 0, .int .i64 0, .int .i64 0, .int .i64 0, .string ⟨#[]⟩, .slice none 0 0, .int .i64 0, .int .i64 0, .int .i64 0, .int .i64 0, .int .i64 0, .int .i64 0, .int .i64 0, .int .i64 0, .int .i64 0, .int .i64 0, .int .i64 0, .int .i64 0, .int .i64 0, .int .i64 0, .int .i64 0, .int .i64 0, .int .i64 0, .int .i64 0, .int .i64 0, .bool false] 64)
  obtain ⟨w5, hw5⟩ : ∃ z, z = w4.drew.alloc (.cells #[.int .i64 0, .int .i64 0, .int .i64 0, .int .i64 0, .int .i64 0, .int .i64 0, .int .i64 0, .int .i64 0, .int .i64 0, .string ⟨#[]⟩, .int .i64 0, .int .i64 0, .int .i64 0, .string ⟨#[]⟩, .string ⟨#[]⟩, .int .i64 0, .int .i64 0, .int .i64 0, .int .i64 0, .string ⟨#[]⟩, .int .i64 0, .int .i64 0, .int .i64 0, .int .i64 0, .string ⟨#[]⟩, .slice none 0 0, .int .i64 0, .int .i64 0, .int .i64 0, .int .i64 0, .int .i64 0, .int .i64 0, .int .i64 0, .int .i64 0, .int .i64 0, .int .i64 0, .int .i64 0, .int .i64 0, .int .i64 0, .int .i64 0, .int .i64 0, .int .i64 0, .int .i64 0, .int .i64 0, .int .i64 0, .bool false] 64) := ⟨_, rfl⟩
  obtain ⟨h, hh⟩ : ∃ z, z = w4.drew.heap.size := ⟨_, rfl⟩
  rw [← hw5] at hh0 ga
  rw [← hh] at hh0
  have hdl := HD4.out.hd.1.1
  have hzl := HD4.out.hz.1.1
  have hbl := HD4.out.pk.1.1
  have hrl := HD4.out.res.1.1
  have hhs : h = w4.heap.size := hh
  have hhd : ¬ h = d := by omega
  have hhz : ¬ h = z := by omega
  have hhb : ¬ h = b := by omega
  have hhr : ¬ h = r := by omega
  have hhF : ¬ y.F h := fun e => by have := HD4.out.mem.lt _ e; omega
  have hhW : W.heap.size ≤ h := by have := HD4.out.turn.size; omega
  have HD5 := Lib.hid (HD4.out.keep (gd.trans ga))
  have HH0 := Lib.hid hh0
  have hS5 := And.intro (HD5.out.hd.1.2 1 _ rfl) (And.intro (HD5.out.pk.1.2 1 _ rfl) (HD5.out.side HAT.out HQ.out))
  have HW5 := Lib.hid hw5
  have HHH := Lib.hid hh
  clear hw5 hh hh0 ga gd hdl hzl hbl hrl hhs x1 e1 b0 b1 b2 hcl hsS hq e6 HD4
  refine wpAnyH_ready (rs := [9]) (by kernel_rfl) (by simp) ?_
  refine AllReadyH.cons (o := _) rfl (fun K hK => ?_) AllReadyH.nil
  refine of_wanted (by rfl) ?_
  refine wp_runTo (some 8) rfl (.pointer (some ⟨h, 0, none⟩)) w5 (by rw [HW5.out, HHH.out]; kernel_rfl) ?_
  refine hK.out _ _ hS5 (fun hHeld2 => ?_)
  clear hK K
  simp only [Act.put, List.setIfInBounds_toArray, List.set_cons_zero, List.set_cons_succ]
  refine wpAnyH_ready (rs := [10]) (by kernel_rfl) (by simp) ?_
  refine AllReadyH.cons (o := _) rfl (fun K hK => ?_) AllReadyH.nil
  refine of_wanted (by rfl) ?_
  refine wp_store_mid 64 (.tmp 8) (.tmp 35) rfl h 0 sd.cells.toArray (by rfl) (by rfl) (by rw [List.size_toArray]; exact HH0.out.there (Nat.le_refl 46)) sd_size (all_oneCell_toArray fun v hv => List.all_eq_true.1 sd.one v hv) ?_
  have th := setCells_turn h sd.cells 0 w5
  have HD6 := Lib.hid (HD5.out.other th hhF hhd hhz hhb hhr hhW)
  have HH6 := Lib.hid (HH0.out.setCells (vs := sd.cells) rfl)
  refine hK.out _ _ (And.intro (HD6.out.hd.1.2 1 _ rfl) (And.intro (HD6.out.pk.1.2 1 _ rfl) (HD6.out.side HAT.out HQ.out))) (fun hHeld3 => ?_)
  clear hK K hHeld hHeld2 hS5 th
  refine wpAnyH_done (by kernel_rfl) ?_ _
  clear hHeld3
  obtain ⟨w6, hw6⟩ : ∃ u, u = w5.setCells h 0 sd.cells := ⟨_, rfl⟩
  rw [show w5.setCells h 0 sd.cells.toArray.toList = w6 from hw6.symm]
  rw [← hw6] at HD6 HH6
  clear hw6 HD5 HH0 HW5 HHH
  go_upto_region 6 with (fail)
  have x1 := HD6.out.pk.1.2 1 _ rfl
  have x2 := HD6.out.pk.1.2 2 _ rfl
  have x3 := HD6.out.pk.1.2 3 _ rfl
  have x4 := HD6.out.pk.1.2 4 _ rfl
  refine wp_region_list ?_
  refine wpList_runTo rfl (some 36) rfl (.pointer (some ⟨b, 1, none⟩)) w6 (by first | (go_simp; done) | rfl) ?_
  refine wpList_runTo rfl (some 37) rfl (.int .i64 p.client) w6 (by go_simp) ?_
  refine wpList_runTo rfl (some 38) rfl (.pointer (some ⟨b, 2, none⟩)) w6 (by first | (go_simp; done) | rfl) ?_
  refine wpList_runTo rfl (some 39) rfl (.int .i64 p.epoch) w6 (by go_simp) ?_
  refine wpList_runTo rfl (some 40) rfl (.pointer (some ⟨b, 3, none⟩)) w6 (by first | (go_simp; done) | rfl) ?_
  refine wpList_runTo rfl (some 41) rfl (.int .i64 p.seq) w6 (by go_simp) ?_
  refine wpList_runTo rfl (some 42) rfl (.pointer (some ⟨b, 4, none⟩)) w6 (by first | (go_simp; done) | rfl) ?_
  refine wpList_runTo rfl (some 43) rfl (.int .i64 p.op) w6 (by go_simp) ?_
  refine wpList_buildTo rfl 36 _ rfl (some 44) rfl ((askP p).cells (.slice none 0 0)).toArray (by kernel_rfl) ?_
  have hg0 := Row.new w6 36 zP #[.int .i64 0, .int .i64 0, .int .i64 0, .int .i64 0, .int .i64 0, .int .i64 0, .int .i64 0, .string ⟨#[]⟩, .int .i64 0, .int .i64 0, .int .i64 0, .string ⟨#[]⟩, .string ⟨#[]⟩, .int .i64 0, .int .i64 0, .int .i64 0, .int .i64 0, .string ⟨#[]⟩, .int .i64 0, .int .i64 0, .int .i64 0, .int .i64 0, .string ⟨#[]⟩, .slice none 0 0, .int .i64 0, .int .i64 0, .int .i64 0, .int .i64 0, .int .i64 0, .int .i64 0, .int .i64 0, .int .i64 0, .int .i64 0, .int .i64 0, .int .i64 0, .int .i64 0, .int .i64 0, .int .i64 0, .int .i64 0, .int .i64 0, .int .i64 0, .int .i64 0, .int .i64 0] rfl
  have ga := (Grow.refl w6).alloc (.cells #[.int .i64 0, .int .i64 0, .int .i64 0, .int .i64 0, .int .i64 0, .int .i64 0, .int .i64 0, .string ⟨#[]⟩, .int .i64 0, .int .i64 0, .int .i64 0, .string ⟨#[]⟩, .string ⟨#[]⟩, .int .i64 0, .int .i64 0, .int .i64 0, .int .i64 0, .string ⟨#[]⟩, .int .i64 0, .int .i64 0, .int .i64 0, .int .i64 0, .string ⟨#[]⟩, .slice none 0 0, .int .i64 0, .int .i64 0, .int .i64 0, .int .i64 0, .int .i64 0, .int .i64 0, .int .i64 0, .int .i64 0, .int .i64 0, .int .i64 0, .int .i64 0, .int .i64 0, .int .i64 0, .int .i64 0, .int .i64 0, .int .i64 0, .int .i64 0, .int .i64 0, .int .i64 0] 36)
  refine wpList_allocTo rfl (some 9) rfl (.pointer (some ⟨w6.heap.size, 0, none⟩)) (.cells #[.int .i64 0, .int .i64 0, .int .i64 0, .int .i64 0, .int .i64 0, .int .i64 0, .int .i64 0, .string ⟨#[]⟩, .int .i64 0, .int .i64 0, .int .i64 0, .string ⟨#[]⟩, .string ⟨#[]⟩, .int .i64 0, .int .i64 0, .int .i64 0, .int .i64 0, .string ⟨#[]⟩, .int .i64 0, .int .i64 0, .int .i64 0, .int .i64 0, .string ⟨#[]⟩, .slice none 0 0, .int .i64 0, .int .i64 0, .int .i64 0, .int .i64 0, .int .i64 0, .int .i64 0, .int .i64 0, .int .i64 0, .int .i64 0, .int .i64 0, .int .i64 0, .int .i64 0, .int .i64 0, .int .i64 0, .int .i64 0, .int .i64 0, .int .i64 0, .int .i64 0, .int .i64 0] 36) (by kernel_rfl) ?_
  obtain ⟨w7, hw7⟩ : ∃ u, u = w6.alloc (.cells #[.int .i64 0, .int .i64 0, .int .i64 0, .int .i64 0, .int .i64 0, .int .i64 0, .int .i64 0, .string ⟨#[]⟩, .int .i64 0, .int .i64 0, .int .i64 0, .string ⟨#[]⟩, .string ⟨#[]⟩, .int .i64 0, .int .i64 0, .int .i64 0, .int .i64 0, .string ⟨#[]⟩, .int .i64 0, .int .i64 0, .int .i64 0, .int .i64 0, .string ⟨#[]⟩, .slice none 0 0, .int .i64 0, .int .i64 0, .int .i64 0, .int .i64 0, .int .i64 0, .int .i64 0, .int .i64 0, .int .i64 0, .int .i64 0, .int .i64 0, .int .i64 0, .int .i64 0, .int .i64 0, .int .i64 0, .int .i64 0, .int .i64 0, .int .i64 0, .int .i64 0, .int .i64 0] 36) := ⟨_, rfl⟩
  obtain ⟨g, hg⟩ : ∃ u, u = w6.heap.size := ⟨_, rfl⟩
  rw [← hw7] at hg0 ga ⊢
  rw [← hg] at hg0 ⊢
  have hgF : ¬ y.F g := fun e => by have := HD6.out.mem.lt _ e; omega
  have hgd : ¬ g = d := by have := HD6.out.hd.1.1; omega
  have hgz : ¬ g = z := by have := HD6.out.hz.1.1; omega
  have hgb : ¬ g = b := by have := HD6.out.pk.1.1; omega
  have hgr : ¬ g = r := by have := HD6.out.res.1.1; omega
  have hgh : ¬ g = h := by have := HH6.out.1.1; omega
  have hgW : W.heap.size ≤ g := by have := HD6.out.turn.size; omega
  have HGA := Lib.hid ga
  have HG0 := Lib.hid hg0
  clear hw7 hg ga hg0 x1 x2 x3 x4
  go_simp
  refine wpList_storeRow rfl 36 (.tmp 9) (.tmp 44) rfl rfl g (by first | (go_simp; done) | rfl) ((askP p).cells (.slice none 0 0)) zP (by first | (go_simp; done) | rfl) HG0.out rfl pk_size (PK.one _ rfl) ?_
  intro w8 r8 t8 z8
  have HG8 := Lib.hid r8
  have HD8 := Lib.hid ((HD6.out.keep HGA.out).other t8 hgF hgd hgz hgb hgr hgW)
  have HH8 := Lib.hid ((HH6.out.keep HGA.out).turnW t8 (fun e => hgh e.symm))
  clear r8 t8 z8 HG0 HGA HD6 HH6
  have x2 := HD8.out.pk.1.2 2 _ rfl
  have x3 := HD8.out.pk.1.2 3 _ rfl
  have s0 : w8.cell? ⟨h, 0, none⟩ = some (.int .i64 sd.ep) := HH8.out.1.2 0 _ rfl
  have s1 : w8.cell? ⟨h, 1, none⟩ = some (.int .i64 sd.la) := HH8.out.1.2 1 _ rfl
  go_upto_region 7 with (fail)
  by_cases hep : p.epoch = sd.ep
  rotate_left
  · have z0 : (p.epoch != sd.ep) = true := bne_iff_ne.2 hep
    have HN := Lib.hid (show doP ⟨m, L, f⟩ p = (ansP p 31 ⟨#[]⟩ 0, true, (CS.mk m L f).stale) by unfold doP; rw [if_pos ⟨HPE.out.symm, HKD.out⟩, if_neg (by rw [← HSD.out]; exact hep)])
    clear hep
    obtain ⟨d19, f19⟩ := errno_at HG8.out
    go_upto_region 9 with (fail)
    have t : Turn (fun k => k = g) w8 (w8.setCell ⟨g, 19, none⟩ (.int .i64 31)) := Turn.setCell (F := fun k => k = g) w8 (p := ⟨g, 19, none⟩) rfl _
    have HD9 := Lib.hid (HD8.out.other t hgF hgd hgz hgb hgr hgW)
    have HG9 := Lib.hid (show Row (w8.setCell ⟨g, 19, none⟩ (.int .i64 31)) g ((ansP p 31 ⟨#[]⟩ 0).cells (.slice none 0 0)) from HG8.out.set (j := 19) (show 19 < 43 by decide))
    obtain ⟨w9, hw9⟩ : ∃ z, z = w8.setCell ⟨g, 19, none⟩ (.int .i64 31) := ⟨_, rfl⟩
    rw [← hw9] at HD9 HG9 ⊢
    clear hw9 t d19 f19 HD8 HG8 x2 x3 s0 s1 z0
    refine wp_region_list ?_
    refine wpList_loadRow rfl 36 (.tmp 9) rfl (some 51) rfl g (by first | (go_simp; done) | rfl) ((ansP p 31 ⟨#[]⟩ 0).cells (.slice none 0 0)) _ HG9.out.1 Try.underlying36 rfl pk_size ?_
    go_simp
    refine wpList_storeRow rfl 36 (.tmp 4) (.tmp 51) rfl rfl r (by first | (go_simp; done) | rfl) ((ansP p 31 ⟨#[]⟩ 0).cells (.slice none 0 0)) zP (by first | (go_simp; done) | rfl) HD9.out.res rfl pk_size (PK.one _ rfl) ?_
    intro wz rz tz sz
    have HZ := Lib.hid (HD9.out.setRes rz tz)
    clear rz tz sz
    go_wp2_with fail
    refine bodyPost_ret (ref_ret rfl rfl HZ.out.res.1 rfl) rfl ?_
    rw [HN.out]
    exact ⟨rfl, HZ.out.rd20 HOK.out.sides, HZ.out.turn⟩
  have z0 : (p.epoch != sd.ep) = false := by rw [hep]; exact bne_self_eq_false _
  have HEP := Lib.hid hep
  clear hep
  go_upto_region 10 with (fail)
  clear x2 s0 z0
  by_cases hsq : p.seq = sd.la
  · have z0 : (p.seq == sd.la) = true := beq_iff_eq.2 hsq
    have HN := Lib.hid (show doP ⟨m, L, f⟩ p = (sd.told, sd.had, (CS.mk m L f).stale) by unfold doP; rw [← HSD.out, if_pos ⟨HPE.out.symm, HKD.out⟩, if_pos HEP.out, if_pos hsq])
    clear hsq
    go_upto_region 11 with (fail)
    clear x3 s1 z0
    have sh : w8.cell? ⟨h, 45, none⟩ = some (.bool sd.had) := HH8.out.1.2 45 _ rfl
    have sr : w8.rangeAt h 2 (sd.told.cells (.slice none 0 0)) := range_sub (h := HH8.out.1.range) (a := [.int .i64 sd.ep, .int .i64 sd.la]) (b := sd.told.cells (.slice none 0 0)) (c := [.bool sd.had]) rfl
    have hsS := And.intro sh sr
    refine wp_region_held_drew (S := fun w' => w'.cell? ⟨h, 45, none⟩ = some (.bool sd.had) ∧ w'.rangeAt h 2 (sd.told.cells (.slice none 0 0))) (by kernel_rfl) ?_ (fun hHeld => ?_)
    · exact hsS
    clear sr sh hsS
    refine wpAnyH_take (i := 0) (oi := _) (v := ?_) rfl (by kernel_rfl) (by kernel_rfl) (by kernel_rfl) (fun _ _ _ h => h) (Or.inl ⟨by rfl, ?_⟩) (by assumption) ?_
    rotate_left
    · (intro w hSw; (try dsimp only at hSw); go_simp; (try with_reducible rfl))
    simp only [Act.put, List.getElem_toArray, List.getElem_cons_zero, List.setIfInBounds_toArray, List.set_cons_zero, List.set_cons_succ]
    refine wpAnyH_take (i := 1) (oi := _) (v := .agg (sd.told.cells (.slice none 0 0)).toArray) rfl (by kernel_rfl) (by kernel_rfl) (by kernel_rfl) (fun _ _ _ h => h) (yieldsIf_load_mid (by rfl) 36 (.tmp 57) rfl h 2 (by first | (go_simp; done) | rfl) (sd.told.cells (.slice none 0 0)) _ (fun w hS => hS.2) Try.underlying36 rfl pk_size) (by assumption) ?_
    simp only [Act.put, List.getElem_toArray, List.getElem_cons_succ, List.getElem_cons_zero, List.setIfInBounds_toArray, List.set_cons_zero, List.set_cons_succ]
    refine wpAnyH_take (i := 2) (oi := _) (v := ?_) rfl (by kernel_rfl) (by kernel_rfl) (by kernel_rfl) (fun _ _ _ h => h) (Or.inl ⟨by rfl, ?_⟩) (by assumption) ?_
    rotate_left
    · (intro w hSw; (try dsimp only at hSw); go_simp; (try with_reducible rfl))
    simp only [Act.put, List.getElem_toArray, List.getElem_cons_succ, List.getElem_cons_zero, List.setIfInBounds_toArray, List.set_cons_zero, List.set_cons_succ]
    refine wpAnyH_take (i := 3) (oi := _) (v := .bool sd.had) rfl (by kernel_rfl) (by kernel_rfl) (by kernel_rfl) (fun _ _ _ h => h) (Or.inl ⟨by rfl, ?_⟩) (by assumption) ?_
    · (intro w hSw; have hSw1 := hSw.1; clear hSw; go_simp; (try with_reducible rfl))
    simp only [Act.put, List.getElem_toArray, List.getElem_cons_succ, List.getElem_cons_zero, List.setIfInBounds_toArray, List.set_cons_zero, List.set_cons_succ]
    refine wpAnyH_ready (rs := [4]) (by kernel_rfl) (by simp) ?_
    refine AllReadyH.cons (o := _) rfl (fun K hK => ?_) AllReadyH.nil
    refine of_wanted (by rfl) ?_
    have HDd := Lib.hid (HD8.out.keep ((Grow.refl w8).drew))
    have HHd := Lib.hid (HH8.out.keep ((Grow.refl w8).drew))
    have hrh : ¬ h = r := hhr
    refine wp_store_mid _ _ _ rfl r 0 (sd.told.cells (.slice none 0 0)).toArray rfl rfl (HDd.out.res.there (by rw [List.size_toArray]; exact Nat.le_refl 43)) pk_size (all_oneCell_toArray fun v hv => List.all_eq_true.1 (PK.one sd.told rfl) v hv) ?_
    have HZ := Lib.hid (HDd.out.setRes (HDd.out.res.setCells (vs := sd.told.cells (.slice none 0 0)) rfl) (setCells_turn r (sd.told.cells (.slice none 0 0)) 0 w8.drew))
    have HHz := Lib.hid (HHd.out.turnW (setCells_turn r (sd.told.cells (.slice none 0 0)) 0 w8.drew) hrh)
    refine hK.out _ _ (And.intro (HHz.out.1.2 45 _ rfl) (range_sub (h := HHz.out.1.range) (a := [.int .i64 sd.ep, .int .i64 sd.la]) (b := sd.told.cells (.slice none 0 0)) (c := [.bool sd.had]) rfl)) (fun hHeld2 => ?_)
    clear hK K HDd HHd HHz hHeld
    refine wpAnyH_take (i := 5) (oi := _) (v := ?_) rfl (by kernel_rfl) (by kernel_rfl) (by kernel_rfl) (fun _ _ _ h => h) (Or.inl ⟨by rfl, ?_⟩) (by assumption) ?_
    rotate_left
    · (intro w hSw; (try dsimp only at hSw); go_simp; (try with_reducible rfl))
    simp only [Act.put, List.getElem_toArray, List.getElem_cons_succ, List.getElem_cons_zero, List.setIfInBounds_toArray, List.set_cons_zero, List.set_cons_succ]
    refine wpAnyH_done (by kernel_rfl) ?_ _
    go_wp2_with fail
    refine bodyPost_ret (ref_ret rfl rfl HZ.out.res.1 rfl) rfl ?_
    rw [HN.out]
    exact ⟨rfl, HZ.out.rd20 HOK.out.sides, HZ.out.turn⟩
  have z0 : (p.seq == sd.la) = false := beq_eq_false_iff_ne.2 hsq
  have HSQ := Lib.hid hsq
  clear hsq
  go_upto_region 12 with (fail)
  clear z0
  by_cases hnx : p.seq = wrap64 (sd.la + 1)
  rotate_left
  · have z0 : (p.seq != wrap64 (sd.la + 1)) = true := bne_iff_ne.2 hnx
    have HN := Lib.hid (show doP ⟨m, L, f⟩ p = ({}, false, (CS.mk m L f).stale) by unfold doP; rw [← HSD.out, if_pos ⟨HPE.out.symm, HKD.out⟩, if_pos HEP.out, if_neg HSQ.out, if_neg hnx])
    clear hnx
    go_upto_region 13 with (fail)
    refine wp_region_list ?_
    refine wpList_buildTo rfl 36 #[] rfl (some 67) rfl zP.toArray (by kernel_rfl) ?_
    go_simp
    refine wpList_storeRow rfl 36 (.tmp 4) (.tmp 67) rfl rfl r rfl zP zP rfl HD8.out.res rfl pk_size zP_one ?_
    intro wz rz tz sz
    have HZ := Lib.hid (HD8.out.setRes rz tz)
    clear rz tz sz
    go_wp2_with fail
    refine bodyPost_ret (ref_ret rfl rfl HZ.out.res.1 rfl) rfl ?_
    rw [HN.out]
    exact ⟨rfl, HZ.out.rd20 HOK.out.sides, HZ.out.turn⟩
  have z0 : (p.seq != wrap64 (sd.la + 1)) = false := by rw [hnx]; exact bne_self_eq_false _
  have HN := Lib.hid (show doP ⟨m, L, f⟩ p = doneP ⟨m, L, f⟩ p by unfold doP; rw [← HSD.out, if_pos ⟨HPE.out.symm, HKD.out⟩, if_pos HEP.out, if_neg HSQ.out, if_pos hnx])
  clear hnx
  go_upto_region 14 with (fail)
  clear z0 x3 s1 HSQ HEP
  have x4 := HD8.out.pk.1.2 4 _ rfl
  obtain ⟨op, hop⟩ : ∃ z, z = p.op := ⟨_, rfl⟩
  rw [← hop] at x4
  have HOPB := Lib.hid (show 1 ≤ op ∧ op ≤ 4 by rw [hop]; exact HASK.out.op)
  have HOP := Lib.hid hop
  clear hop
  go_upto_region 15 with (fail)
  go_upto_block 0 with (fail)
  go_cut [10] (fun v wx => v = .bool (!okV p) ∧ VR w8 wx y g m p)
  case first =>
    have hob := HOPB.out
    have x1 := HD8.out.pk.1.2 1 _ rfl
    have x5 := HD8.out.pk.1.2 5 _ rfl
    have hdp := HD8.out.hd.1.2 0 _ rfl
    clear HN HSD HAT HQ HH8
    by_cases k2 : op = 2
    · subst k2
      have HV := Lib.hid (show okV p = mayP p.client p.at_ p.n ∧ verbV m p = getV m p by
        have e := HOP.out.symm
        exact ⟨by unfold okV; rw [if_pos (by omega)], by unfold verbV; rw [if_pos (by omega)]⟩)
      have x6 := HD8.out.pk.1.2 6 _ rfl
      clear hob
      go_wp2_with fail
      refine (rmay_w HASK.out.client HASK.out.at_ HASK.out.n _).mono ?_
      rintro e w9 ⟨rfl, rfl⟩
      obtain ⟨ow, how⟩ : ∃ u, u = mayP p.client p.at_ p.n := ⟨_, rfl⟩
      rw [← how]
      rw [← how] at HV
      have HOW := Lib.hid how
      clear how
      cases ow with
      | false =>
        go_wp2_with fail
        go_meet
        exact ⟨by rw [HV.out.1]; rfl, VR.no HV.out.1 HD8.out.mem HG8.out (Grow.refl _)⟩
      | true =>
        obtain ⟨L', cs, ct, ca, hL, hcs, -, -, hyp, -, -, -⟩ := HD8.out.mem.look
        obtain ⟨r1, r2, r3, r4⟩ := may_room HASK.out.client HOW.out.symm
        obtain ⟨a, ha⟩ : ∃ a : Nat, p.at_ = (a : Int) := ⟨p.at_.toNat, by omega⟩
        obtain ⟨n, hn⟩ : ∃ n : Nat, p.n = (n : Int) := ⟨p.n.toNat, by omega⟩
        rw [ha] at x5
        rw [hn] at x6
        have hLL := hL.out
        have hx := (Sl.ofRB HD8.out.mem.seenRB (HD8.out.mem.lenS.trans hL.out.symm) (by omega) : Sl w8 (some ⟨y.gs, 0, none⟩) L' m.S).part (c := cs) (a := a) (n := n) hcs (by omega) (by omega)
        have HLD := Lib.hid (show loadL 2896 m.S p.at_ p.n = (m.S.drop a).take n by
          unfold loadL
          rw [if_pos (inW_iff.2 ⟨by omega, by omega, by omega⟩), ha, hn]
          rfl)
        obtain ⟨bs, hbs⟩ : ∃ u, u = (m.S.drop a).take n := ⟨_, rfl⟩
        rw [← hbs] at hx HLD
        have HX := Lib.hid hx
        have c1 : (0 : Int) ≤ (a : Int) := by omega
        have c2 : (a : Int) ≤ (a : Int) + n := by omega
        have c3 : (a : Int) + n ≤ (cs : Int) := by omega
        have c4 : ¬ cs = a := by omega
        have c5 : a ≤ a + n := by omega
        have c6 : a + n ≤ cs := by omega
        have e6 : IntKind.i64.wrap ((a : Int) + n) = (a : Int) + n := IntWalk.i64_in _ (by omega)
        have e7 : wrap64 ((a : Int) + n) = (a : Int) + n := IntWalk.wrap64_in _ (by clear e6; omega)
        have hpg : ¬ y.gs = g := fun e => hgF (Or.inr (Or.inl e.symm))
        have hyg : ¬ y.p = g := fun e => hgF (Or.inl e.symm)
        obtain ⟨d7, f7⟩ := data_at HG8.out
        clear hbs ha hn r1 r2 r3 r4 hL hLL hcs
        go_upto_region 23 with (fail)
        have hsS := And.intro hdp (And.intro hyp (And.intro x5 (And.intro x6 hx)))
        clear hx
        refine wp_region_held_drew (S := fun w' => w'.cell? ⟨d, 0, none⟩ = some (.pointer (some ⟨y.p, 0, none⟩)) ∧ w'.cell? ⟨y.p, 0, none⟩ = some (.slice (some ⟨y.gs, 0, none⟩) L' cs) ∧ w'.cell? ⟨b, 5, none⟩ = some (.int .i64 (a : Int)) ∧ w'.cell? ⟨b, 6, none⟩ = some (.int .i64 (n : Int)) ∧ Sl w' (some ⟨y.gs, a, none⟩) n bs) (by kernel_rfl) ?_ (fun hHeld => ?_)
        · exact ⟨hsS.1, hsS.2.1, hsS.2.2.1, hsS.2.2.2.1, HX.out.drew⟩
        refine wpAnyH_take (i := 0) (oi := _) (v := ?_) rfl (by kernel_rfl) (by kernel_rfl) (by kernel_rfl) (fun _ _ _ h => h) (Or.inl ⟨by rfl, ?_⟩) (by assumption) ?_
        rotate_left
        · (intro w hSw; obtain ⟨q1, q2, q3, q4, -⟩ := hSw; go_simp; (try with_reducible rfl))
        simp only [Act.put, List.getElem_toArray, List.getElem_cons_zero, List.setIfInBounds_toArray, List.set_cons_zero, List.set_cons_succ]
        refine wpAnyH_take (i := 1) (oi := _) (v := ?_) rfl (by kernel_rfl) (by kernel_rfl) (by kernel_rfl) (fun _ _ _ h => h) (Or.inl ⟨by rfl, ?_⟩) (by assumption) ?_
        rotate_left
        · (intro w hSw; obtain ⟨q1, q2, q3, q4, -⟩ := hSw; go_simp; (try with_reducible rfl))
        simp only [Act.put, List.getElem_toArray, List.getElem_cons_succ, List.getElem_cons_zero, List.setIfInBounds_toArray, List.set_cons_zero, List.set_cons_succ]
        refine wpAnyH_take (i := 2) (oi := _) (v := ?_) rfl (by kernel_rfl) (by kernel_rfl) (by kernel_rfl) (fun _ _ _ h => h) (Or.inl ⟨by rfl, ?_⟩) (by assumption) ?_
        rotate_left
        · (intro w hSw; obtain ⟨q1, q2, q3, q4, -⟩ := hSw; go_simp; (try with_reducible rfl))
        simp only [Act.put, List.getElem_toArray, List.getElem_cons_succ, List.getElem_cons_zero, List.setIfInBounds_toArray, List.set_cons_zero, List.set_cons_succ]
        refine wpAnyH_take (i := 3) (oi := _) (v := ?_) rfl (by kernel_rfl) (by kernel_rfl) (by kernel_rfl) (fun _ _ _ h => h) (Or.inl ⟨by rfl, ?_⟩) (by assumption) ?_
        rotate_left
        · (intro w hSw; obtain ⟨q1, q2, q3, q4, -⟩ := hSw; go_simp; (try with_reducible rfl))
        simp only [Act.put, List.getElem_toArray, List.getElem_cons_succ, List.getElem_cons_zero, List.setIfInBounds_toArray, List.set_cons_zero, List.set_cons_succ]
        refine wpAnyH_take (i := 4) (oi := _) (v := ?_) rfl (by kernel_rfl) (by kernel_rfl) (by kernel_rfl) (fun _ _ _ h => h) (Or.inl ⟨by rfl, ?_⟩) (by assumption) ?_
        rotate_left
        · (intro w hSw; obtain ⟨q1, q2, q3, q4, -⟩ := hSw; go_simp; (try with_reducible rfl))
        simp only [Act.put, List.getElem_toArray, List.getElem_cons_succ, List.getElem_cons_zero, List.setIfInBounds_toArray, List.set_cons_zero, List.set_cons_succ]
        refine wpAnyH_take (i := 5) (oi := _) (v := ?_) rfl (by kernel_rfl) (by kernel_rfl) (by kernel_rfl) (fun _ _ _ h => h) (Or.inl ⟨by rfl, ?_⟩) (by assumption) ?_
        rotate_left
        · (intro w hSw; obtain ⟨q1, q2, q3, q4, -⟩ := hSw; go_simp; (try with_reducible rfl))
        simp only [Act.put, List.getElem_toArray, List.getElem_cons_succ, List.getElem_cons_zero, List.setIfInBounds_toArray, List.set_cons_zero, List.set_cons_succ]
        refine wpAnyH_take (i := 6) (oi := _) (v := ?_) rfl (by kernel_rfl) (by kernel_rfl) (by kernel_rfl) (fun _ _ _ h => h) (Or.inl ⟨by rfl, ?_⟩) (by assumption) ?_
        rotate_left
        · (intro w hSw; obtain ⟨q1, q2, q3, q4, -⟩ := hSw; go_simp; (try with_reducible rfl))
        simp only [Act.put, List.getElem_toArray, List.getElem_cons_succ, List.getElem_cons_zero, List.setIfInBounds_toArray, List.set_cons_zero, List.set_cons_succ]
        refine wpAnyH_take (i := 7) (oi := _) (v := ?_) rfl (by kernel_rfl) (by kernel_rfl) (by kernel_rfl) (fun _ _ _ h => h) (Or.inl ⟨by rfl, ?_⟩) (by assumption) ?_
        rotate_left
        · (intro w hSw; obtain ⟨q1, q2, q3, q4, -⟩ := hSw; go_simp; (try with_reducible rfl))
        simp only [Act.put, List.getElem_toArray, List.getElem_cons_succ, List.getElem_cons_zero, List.setIfInBounds_toArray, List.set_cons_zero, List.set_cons_succ]
        refine wpAnyH_take (i := 8) (oi := _) (v := ?_) rfl (by kernel_rfl) (by kernel_rfl) (by kernel_rfl) (fun _ _ _ h => h) (Or.inl ⟨by rfl, ?_⟩) (by assumption) ?_
        rotate_left
        · (intro w hSw; obtain ⟨q1, q2, q3, q4, -⟩ := hSw; go_simp; (try with_reducible rfl))
        simp only [Act.put, List.getElem_toArray, List.getElem_cons_succ, List.getElem_cons_zero, List.setIfInBounds_toArray, List.set_cons_zero, List.set_cons_succ]
        refine wpAnyH_take (i := 9) (oi := _) (v := ?_) rfl (by kernel_rfl) (by kernel_rfl) (by kernel_rfl) (fun _ _ _ h => h) (Or.inl ⟨by rfl, ?_⟩) (by assumption) ?_
        rotate_left
        · (intro w hSw; obtain ⟨q1, q2, q3, q4, -⟩ := hSw; go_simp; (try with_reducible rfl))
        simp only [Act.put, List.getElem_toArray, List.getElem_cons_succ, List.getElem_cons_zero, List.setIfInBounds_toArray, List.set_cons_zero, List.set_cons_succ]
        refine wpAnyH_take (i := 10) (oi := _) (v := ?_) rfl (by kernel_rfl) (by kernel_rfl) (by kernel_rfl) (fun _ _ _ h => h) (Or.inl ⟨by rfl, ?_⟩) (by assumption) ?_
        rotate_left
        · (intro w hSw; obtain ⟨q1, q2, q3, q4, -⟩ := hSw; go_simp; (try with_reducible rfl))
        simp only [Act.put, List.getElem_toArray, List.getElem_cons_succ, List.getElem_cons_zero, List.setIfInBounds_toArray, List.set_cons_zero, List.set_cons_succ]
        refine wpAnyH_take (i := 11) (oi := _) (v := ?_) rfl (by kernel_rfl) (by kernel_rfl) (by kernel_rfl) (fun _ _ _ h => h) (Or.inl ⟨by rfl, ?_⟩) (by assumption) ?_
        rotate_left
        · (intro w hSw; obtain ⟨q1, q2, q3, q4, -⟩ := hSw; go_simp; (try with_reducible rfl))
        simp only [Act.put, List.getElem_toArray, List.getElem_cons_succ, List.getElem_cons_zero, List.setIfInBounds_toArray, List.set_cons_zero, List.set_cons_succ]
        refine wpAnyH_take (i := 12) (oi := _) (v := ?_) rfl (by kernel_rfl) (by kernel_rfl) (by kernel_rfl) (fun _ _ _ h => h) (Or.inl ⟨by rfl, ?_⟩) (by assumption) ?_
        rotate_left
        · (intro w hSw; obtain ⟨q1, q2, q3, q4, -⟩ := hSw; go_simp; (try with_reducible rfl))
        simp only [Act.put, List.getElem_toArray, List.getElem_cons_succ, List.getElem_cons_zero, List.setIfInBounds_toArray, List.set_cons_zero, List.set_cons_succ]
        refine wpAnyH_take (i := 13) (oi := _) (v := .int .i64 ((a : Int) + n)) rfl (by kernel_rfl) (by kernel_rfl) (by kernel_rfl) (fun _ _ _ h => h) (Or.inl ⟨by rfl, ?_⟩) (by assumption) ?_
        · (intro w hSw; clear hSw; go_simp)
        simp only [Act.put, List.getElem_toArray, List.getElem_cons_succ, List.getElem_cons_zero, List.setIfInBounds_toArray, List.set_cons_zero, List.set_cons_succ]
        refine wpAnyH_take (i := 14) (oi := _) (v := .slice (some ⟨y.gs, a, none⟩) n (cs - a)) rfl (by kernel_rfl) (by kernel_rfl) (by kernel_rfl) (fun _ _ _ h => h) (Or.inl ⟨by rfl, ?_⟩) (by assumption) ?_
        · (intro w hSw; clear hSw; go_simp; clear e6 e7; omega)
        simp only [Act.put, List.getElem_toArray, List.getElem_cons_succ, List.getElem_cons_zero, List.setIfInBounds_toArray, List.set_cons_zero, List.set_cons_succ]
        refine wpAnyH_take (i := 15) (oi := _) (v := .string ⟨bs.toArray⟩) rfl (by kernel_rfl) (by kernel_rfl) (by kernel_rfl) (fun _ _ _ h => h) (Or.inl ⟨by rfl, ?_⟩) (by assumption) ?_
        · (intro w hSw; have cv := conv_s (c := cs - a) hSw.2.2.2.2; clear hSw; go_simp)
        simp only [Act.put, List.getElem_toArray, List.getElem_cons_succ, List.getElem_cons_zero, List.setIfInBounds_toArray, List.set_cons_zero, List.set_cons_succ]
        refine wpAnyH_take (i := 16) (oi := _) (v := ?_) rfl (by kernel_rfl) (by kernel_rfl) (by kernel_rfl) (fun _ _ _ h => h) (Or.inl ⟨by rfl, ?_⟩) (by assumption) ?_
        rotate_left
        · (intro w hSw; obtain ⟨q1, q2, q3, q4, -⟩ := hSw; go_simp; (try with_reducible rfl))
        simp only [Act.put, List.getElem_toArray, List.getElem_cons_succ, List.getElem_cons_zero, List.setIfInBounds_toArray, List.set_cons_zero, List.set_cons_succ]
        have gdr := (Grow.refl w8).drew
        have t9 : Turn (fun k => k = g) w8 (w8.drew.setCell ⟨g, 7, none⟩ (.string ⟨bs.toArray⟩)) := (Turn.grow gdr _).and (Turn.setCell (F := fun k => k = g) w8.drew (p := ⟨g, 7, none⟩) rfl _)
        have HM9 := Lib.hid (HD8.out.mem.turn t9 (fun k e => by rw [e]; exact hgF))
        have HG9 := Lib.hid (show Row (w8.drew.setCell ⟨g, 7, none⟩ (.string ⟨bs.toArray⟩)) g ((ansP p 0 ⟨bs.toArray⟩ 0).cells (.slice none 0 0)) from (HG8.out.keep gdr).set (j := 7) (show 7 < 43 by decide))
        have HT9 := Lib.hid t9
        refine wpAnyH_ready (rs := [17]) (by kernel_rfl) (by simp) ?_
        refine AllReadyH.cons (o := _) rfl (fun K hK => ?_) AllReadyH.nil
        go_simp
        refine hK.out _ _ ⟨t9.cellW hdp (fun e => hgd e.symm), t9.cellW hyp hyg, t9.cellW x5 (fun e => hgb e.symm), t9.cellW x6 (fun e => hgb e.symm), HX.out.turnW t9 (fun _ q hq => by injection hq with hq; subst hq; exact hpg)⟩ (fun hHeld2 => ?_)
        clear hK K hHeld hHeld2 hsS t9 gdr
        refine wpAnyH_done (by kernel_rfl) ?_ _
        go_wp2_with fail
        go_meet
        exact ⟨by rw [HV.out.1]; rfl, VR.yes HV.out.1 (by rw [HV.out.2, getV, if_pos HOW.out.symm, HLD.out]) HM9.out HG9.out (HT9.out.mono fun k e => .inr e)⟩
    by_cases k3 : op = 3
    · subst k3
      have HV := Lib.hid (show okV p = ownP p.client p.at_ p.n ∧ verbV m p = flushV m p by
        have e := HOP.out.symm
        exact ⟨by unfold okV; rw [if_neg (by omega), if_pos (by omega)], by unfold verbV; rw [if_neg (by omega), if_pos (by omega)]⟩)
      have x6 := HD8.out.pk.1.2 6 _ rfl
      clear hob k2
      go_wp2_with fail
      refine (rown_w HASK.out.client (by have := HASK.out.at_; omega) (by have := HASK.out.n; omega) _).mono ?_
      rintro e w9 ⟨rfl, rfl⟩
      obtain ⟨ow, how⟩ : ∃ u, u = ownP p.client p.at_ p.n := ⟨_, rfl⟩
      rw [← how]
      rw [← how] at HV
      have HOW := Lib.hid how
      clear how
      cases ow with
      | false =>
        go_wp2_with fail
        go_meet
        exact ⟨by rw [HV.out.1]; rfl, VR.no HV.out.1 HD8.out.mem HG8.out (Grow.refl _)⟩
      | true =>
        have hsS := And.intro hdp (And.intro x5 x6)
        go_upto_region 27 with (fail)
        go_region_held3 (fun w' => w'.cell? ⟨d, 0, none⟩ = some (.pointer (some ⟨y.p, 0, none⟩)) ∧ w'.cell? ⟨b, 5, none⟩ = some (.int .i64 p.at_) ∧ w'.cell? ⟨b, 6, none⟩ = some (.int .i64 p.n)) (first | exact hsS | exact hs3) ((go_at_call 39; go_loud (refine (rm_flushU (HD8.out.mem.keep ?_) p.at_ p.n).mono ?_; (repeat (first | exact Grow.refl _ | refine Grow.drew ?_ | refine Grow.drewN ?_ _)); rintro e w9 ⟨rfl, h3, t3⟩; have T3 : Turn y.F w8 w9 := (Turn.grow (by (repeat (first | exact Grow.refl _ | refine Grow.drew ?_ | refine Grow.drewN ?_ _))) y.F).and t3; have hs3 := three_turn T3 HD8.out.dF HD8.out.bF HD8.out.bF hsS)))
        all_goals
          have HM3 := Lib.hid h3
          have HR3 := Lib.hid (HG8.out.turnW T3 hgF)
          have HT3 := Lib.hid T3
          have c0 := hs3.1
          clear h3 t3 T3 hsS hs3
          go_wp2_with fail
          refine (rm_fence HM3.out).mono ?_
          rintro e w10 ⟨rfl, h4, t4⟩
          go_wp2_with fail
          go_meet
          exact ⟨by rw [HV.out.1]; rfl, VR.yes HV.out.1 (by rw [HV.out.2, flushV, if_pos HOW.out.symm]) h4 (HR3.out.turnW t4 hgF) ((HT3.out.and t4).mono fun k e => .inl e)⟩
    by_cases k4 : op = 4
    · subst k4
      have HV := Lib.hid (show okV p = swapB p ∧ verbV m p = swapV m p by
        have e := HOP.out.symm
        exact ⟨by unfold okV; rw [if_neg (by omega), if_neg (by omega), if_pos (by omega)], by unfold verbV; rw [if_neg (by omega), if_neg (by omega), if_pos (by omega)]⟩)
      clear hob k2 k3
      by_cases h8 : p.at_ % 8 = 0
      rotate_left
      · have z3 : (Int.tmod p.at_ 8 != 0) = true := by rw [Int.tmod_eq_emod_of_nonneg HASK.out.at_.1]; exact bne_iff_ne.2 h8
        have z4 : ¬ Int.tmod p.at_ 8 = 0 := by rw [Int.tmod_eq_emod_of_nonneg HASK.out.at_.1]; exact h8
        have HNO := Lib.hid (show okV p = false by rw [HV.out.1]; unfold swapB; rw [decide_eq_false h8]; rfl)
        go_wp2_with fail
        go_meet
        exact ⟨by rw [HNO.out]; rfl, VR.no HNO.out HD8.out.mem HG8.out (Grow.refl _)⟩
      have z3 : (Int.tmod p.at_ 8 != 0) = false := by rw [Int.tmod_eq_emod_of_nonneg HASK.out.at_.1, h8]; rfl
      have z4 : Int.tmod p.at_ 8 = 0 := by rw [Int.tmod_eq_emod_of_nonneg HASK.out.at_.1, h8]
      replace HV := Lib.hid (show okV p = ownP p.client p.at_ 8 ∧ verbV m p = swapV m p from ⟨by rw [HV.out.1]; unfold swapB; rw [decide_eq_true h8]; rfl, HV.out.2⟩)
      go_wp2_with fail
      refine (rown_w HASK.out.client (by have := HASK.out.at_; omega) (by omega) _).mono ?_
      rintro e w9 ⟨rfl, rfl⟩
      obtain ⟨ow, how⟩ : ∃ u, u = ownP p.client p.at_ 8 := ⟨_, rfl⟩
      rw [← how]
      rw [← how] at HV
      have HOW := Lib.hid how
      clear how
      cases ow with
      | false =>
        go_wp2_with fail
        go_meet
        exact ⟨by rw [HV.out.1]; rfl, VR.no HV.out.1 HD8.out.mem HG8.out (Grow.refl _)⟩
      | true =>
        have HSW := Lib.hid (show swapB p = true by unfold swapB; rw [← HOW.out, decide_eq_true h8]; rfl)
        clear z3 z4 h8
        obtain ⟨L', cs, ct, ca, hL, hcs, -, -, hyp, -, -, -⟩ := HD8.out.mem.look
        have HSL := Lib.hid (show Sl w8 (some ⟨y.gs, 0, none⟩) L' m.S from Sl.ofRB HD8.out.mem.seenRB (HD8.out.mem.lenS.trans hL.out.symm) (by have := hL.out; omega))
        have hpg : ¬ y.p = g := fun e => hgF (Or.inl e.symm)
        have hsS := And.intro hdp (And.intro x5 hyp)
        have d8 : w8.cell? ⟨g, 8, none⟩ = some (.int .i64 0) := (old_at HG8.out).1
        have f8 := (old_at HG8.out).2
        go_upto_region 32 with (fail)
        go_region_held3 (fun w' => w'.cell? ⟨d, 0, none⟩ = some (.pointer (some ⟨y.p, 0, none⟩)) ∧ w'.cell? ⟨b, 5, none⟩ = some (.int .i64 p.at_) ∧ w'.cell? ⟨y.p, 0, none⟩ = some (.slice (some ⟨y.gs, 0, none⟩) L' cs)) (first | exact hsS | exact three_turn ((Turn.setCell (F := fun k => k = g) w8 (p := ⟨g, 8, none⟩) rfl _).andGrow ((Grow.refl _).drew)) (fun e => hgd e.symm) (fun e => hgb e.symm) hpg hsS) ((go_at_call 41; refine (rget_s (HSL.out.keep ?_) (by have := HASK.out.at_; omega) (by have := HASK.out.at_; omega)).mono ?_; (repeat (first | exact Grow.refl _ | refine Grow.drew ?_ | refine Grow.drewN ?_ _)); rintro e w9 ⟨rfl, rfl⟩))
        all_goals
          go_upto_region 33 with (fail)
          obtain ⟨cv, hcv⟩ : ∃ u, u = getN m.S p.at_ 8 := ⟨_, rfl⟩
          rw [← hcv]
          have HCV := Lib.hid (show cellP m p = cv from hcv.symm)
          obtain ⟨w9, hw9⟩ : ∃ u, u = (w8.setCell ⟨g, 8, none⟩ (.int .i64 cv)).drew := ⟨_, rfl⟩
          have t9 : Turn (fun k => k = g) w8 w9 := by
            rw [hw9]
            exact (Turn.setCell (F := fun k => k = g) w8 (p := ⟨g, 8, none⟩) rfl _).andGrow ((Grow.refl _).drew)
          have HM9 := Lib.hid (HD8.out.mem.turn t9 (fun k e => by rw [e]; exact hgF))
          have HG9 := Lib.hid (show Row w9 g ((ansP p 0 ⟨#[]⟩ cv).cells (.slice none 0 0)) from by
            rw [hw9]
            exact (show Row (w8.setCell ⟨g, 8, none⟩ (.int .i64 cv)) g ((ansP p 0 ⟨#[]⟩ cv).cells (.slice none 0 0)) from HG8.out.set (j := 8) (show 8 < 43 by decide)).keep ((Grow.refl _).drew))
          have BX9 := Lib.hid (HD8.out.pk.turnW t9 (fun e => hgb e.symm))
          have hd9 := t9.cellW hdp (fun e => hgd e.symm)
          have HT9 := Lib.hid t9
          have HRS := Lib.hid (show swapV m p = (ansP p 0 ⟨#[]⟩ cv, if cv = p.old then m.store p.at_ (leB p.new.toNat 8) else m) by rw [swapV, if_pos HSW.out, HCV.out])
          rw [← hw9]
          clear hw9 t9 hcv hsS d8 f8 x1 x5 hdp hyp HSL hpg
          have d8 : w9.cell? ⟨g, 8, none⟩ = some (.int .i64 cv) := (old_at HG9.out).1
          have x8 : w9.cell? ⟨b, 8, none⟩ = some (.int .i64 p.old) := BX9.out.1.2 8 _ rfl
          by_cases he : cv = p.old
          · have z0 : (cv == p.old) = true := beq_iff_eq.2 he
            rw [if_pos he] at HRS
            clear he
            go_upto_region 34 with (fail)
            clear d8 x8 z0
            have hsS := And.intro hd9 (And.intro (BX9.out.1.2 5 _ rfl) (BX9.out.1.2 9 _ rfl))
            go_region_held3 (fun w' => w'.cell? ⟨d, 0, none⟩ = some (.pointer (some ⟨y.p, 0, none⟩)) ∧ w'.cell? ⟨b, 5, none⟩ = some (.int .i64 p.at_) ∧ w'.cell? ⟨b, 9, none⟩ = some (.int .i64 p.new)) (first | exact hsS | exact hs5 | exact hs6) (first
              | (go_at_call 42; refine (rput_s 8 Sl.nil HASK.out.new HP.out.new.2 rfl (by omega)).mono ?_; rintro e w10 ⟨A5, c5, rfl, o5, g5⟩; have G5 : Grow w9 w10 := Grow.trans (by (repeat (first | exact Grow.refl _ | refine Grow.drew ?_ | refine Grow.drewN ?_ _))) g5; have hs5 := three_grow G5 hsS; have HO5 := Lib.hid o5; clear o5 g5)
              | (go_at_call 37; go_loud (refine (rm_storeAt HM9.out ?_ (fun h0 q hq => by subst hq; exact (World.ownsRow.lt HO5.out.2.2 q.block rfl).1) (HO5.out.sl.keep ?_) p.at_).mono ?_; (repeat (first | exact Grow.refl _ | exact G5 | refine Grow.drew ?_ | refine Grow.drewN ?_ _)); rintro e w11 ⟨⟨er, rfl⟩, h6, t6, t7⟩; have hs6 := three_turn t7 HD8.out.dF HD8.out.bF HD8.out.bF hsS)))
            all_goals
              go_wp2_with fail
              go_meet
              exact ⟨by rw [HV.out.1]; rfl, VR.yes HV.out.1 (by rw [HV.out.2, HRS.out]; rfl) h6 (HG9.out.turnW t7 hgF) ((HT9.out.mono fun k e => .inr e).and (t7.mono fun k e => .inl e))⟩
          · have z0 : (cv == p.old) = false := beq_eq_false_iff_ne.2 he
            rw [if_neg he] at HRS
            clear he
            go_wp2_with fail
            go_meet
            exact ⟨by rw [HV.out.1]; rfl, VR.yes HV.out.1 (by rw [HV.out.2, HRS.out]) HM9.out HG9.out (HT9.out.mono fun k e => .inr e)⟩
    obtain rfl : op = 1 := by omega
    have HV := Lib.hid (show okV p = ownP p.client p.at_ p.data.size ∧ verbV m p = putV m p by
      have e := HOP.out.symm
      exact ⟨by unfold okV; rw [if_neg (by omega), if_neg (by omega), if_neg (by omega)], by unfold verbV; rw [if_neg (by omega), if_neg (by omega), if_neg (by omega)]⟩)
    have x7 := HD8.out.pk.1.2 7 _ rfl
    clear hob k2 k3 k4
    go_wp2_with fail
    refine (rown_w HASK.out.client (by have := HASK.out.at_; omega) (by have := HASK.out.data; omega) _).mono ?_
    rintro e w9 ⟨rfl, rfl⟩
    obtain ⟨ow, how⟩ : ∃ u, u = ownP p.client p.at_ p.data.size := ⟨_, rfl⟩
    rw [← how]
    rw [← how] at HV
    have HOW := Lib.hid how
    clear how
    cases ow with
    | false =>
      go_wp2_with fail
      go_meet
      exact ⟨by rw [HV.out.1]; rfl, VR.no HV.out.1 HD8.out.mem HG8.out (Grow.refl _)⟩
    | true =>
      have HSZ := Lib.hid HASK.out.data
      have hsS := And.intro hdp (And.intro x5 x7)
      have kc := fun (u : World) => Lib.run_convert_string_bytes (P := Try.prog) u 9 44 5 p.data Try.underlying9 Try.underlying44 Try.underlying5
      go_upto_region 19 with (fail)
      refine wp_region_held_drew (S := fun w' => w'.cell? ⟨d, 0, none⟩ = some (.pointer (some ⟨y.p, 0, none⟩)) ∧ w'.cell? ⟨b, 5, none⟩ = some (.int .i64 p.at_) ∧ w'.cell? ⟨b, 7, none⟩ = some (.string p.data)) (by kernel_rfl) ?_ (fun hHeld => ?_)
      · exact hsS
      refine wpAnyH_take (i := 0) (oi := _) (v := ?_) rfl (by kernel_rfl) (by kernel_rfl) (by kernel_rfl) (fun _ _ _ h => h) (Or.inl ⟨by rfl, ?_⟩) (by assumption) ?_
      rotate_left
      · (intro w hSw; (try dsimp only at hSw); go_simp; (try with_reducible rfl))
      simp only [Act.put, List.setIfInBounds_toArray]
      refine wpAnyH_take (i := 1) (oi := _) (v := ?_) rfl (by kernel_rfl) (by kernel_rfl) (by kernel_rfl) (fun _ _ _ h => h) (Or.inl ⟨by rfl, ?_⟩) (by assumption) ?_
      rotate_left
      · (intro w hSw; (try dsimp only at hSw); go_simp; (try with_reducible rfl))
      simp only [Act.put]
      refine wpAnyH_take (i := 2) (oi := _) (v := ?_) rfl (by kernel_rfl) (by kernel_rfl) (by kernel_rfl) (fun _ _ _ h => h) (Or.inl ⟨by rfl, ?_⟩) (by assumption) ?_
      rotate_left
      · (intro w hSw; (try dsimp only at hSw); go_simp; (try with_reducible rfl))
      simp only [Act.put]
      refine wpAnyH_take (i := 3) (oi := _) (v := ?_) rfl (by kernel_rfl) (by kernel_rfl) (by kernel_rfl) (fun _ _ _ h => h) (Or.inl ⟨by rfl, ?_⟩) (by assumption) ?_
      rotate_left
      · (intro w hSw; (try dsimp only at hSw); go_simp; (try with_reducible rfl))
      simp only [Act.put]
      refine wpAnyH_take (i := 4) (oi := _) (v := ?_) rfl (by kernel_rfl) (by kernel_rfl) (by kernel_rfl) (fun _ _ _ h => h) (Or.inl ⟨by rfl, ?_⟩) (by assumption) ?_
      rotate_left
      · (intro w hSw; (try dsimp only at hSw); go_simp; (try with_reducible rfl))
      simp only [Act.put]
      refine wpAnyH_take (i := 5) (oi := _) (v := ?_) rfl (by kernel_rfl) (by kernel_rfl) (by kernel_rfl) (fun _ _ _ h => h) (Or.inl ⟨by rfl, ?_⟩) (by assumption) ?_
      rotate_left
      · (intro w hSw; (try dsimp only at hSw); go_simp; (try with_reducible rfl))
      simp only [Act.put]
      refine wpAnyH_take (i := 6) (oi := _) (v := ?_) rfl (by kernel_rfl) (by kernel_rfl) (by kernel_rfl) (fun _ _ _ h => h) (Or.inl ⟨by rfl, ?_⟩) (by assumption) ?_
      rotate_left
      · (intro w hSw; (try dsimp only at hSw); go_simp; (try with_reducible rfl))
      simp only [Act.put]
      refine wpAnyH_take (i := 7) (oi := _) (v := ?_) rfl (by kernel_rfl) (by kernel_rfl) (by kernel_rfl) (fun _ _ _ h => h) (Or.inl ⟨by rfl, ?_⟩) (by assumption) ?_
      rotate_left
      · (intro w hSw; (try dsimp only at hSw); go_simp; (try with_reducible rfl))
      simp only [Act.put]
      refine wpAnyH_ready (rs := [8]) (by kernel_rfl) (by simp) ?_
      refine AllReadyH.cons (o := _) rfl (fun K hK => ?_) AllReadyH.nil
      go_simp
      refine hK.out _ _ (three_grow (bytesGrow _ _) (by assumption)) (fun hHeld2 => ?_)
      clear hK K
      refine wpAnyH_ready (rs := [9]) (by kernel_rfl) (by simp) ?_
      refine AllReadyH.cons (o := _) rfl (fun K hK => ?_) AllReadyH.nil
      go_simp
      refine (rm_storeAt HD8.out.mem ?_ ?_ (bytes_of _ _ (by have := HSZ.out; omega)).1 p.at_).mono ?_
      · (repeat (first | exact Grow.refl _ | refine Grow.drew ?_ | refine Grow.drewN ?_ _ | refine Grow.trans ?_ (bytesGrow _ _)))
      · intro _ q hq
        injection hq with hq
        subst hq
        simp
      rintro e w10 ⟨⟨er, rfl⟩, h5, t5, t6⟩
      refine hK.out _ _ (three_turn t6 HD8.out.dF HD8.out.bF HD8.out.bF hsS) (fun hHeld2 => ?_)
      clear hK K
      refine wpAnyH_done (by kernel_rfl) ?_ _
      all_goals
        go_wp2_with fail
        go_meet
        exact ⟨by rw [HV.out.1]; rfl, VR.yes HV.out.1 (by rw [HV.out.2, putV, if_pos HOW.out.symm]) h5 (HG8.out.turnW t6 hgF) (t6.mono fun k e => .inl e)⟩
  case rest =>
    obtain ⟨rfl, hv⟩ := hcut
    clear x4
    have HD9 := Lib.hid (HD8.out.verb hv hgd hgz hgb hgr hgW)
    have HG9 := Lib.hid hv.2.1
    have HH9 := Lib.hid (HH8.out.turnW hv.2.2 (fun e => e.elim hhF fun e => hgh e.symm))
    have HE := Lib.hid (show doneP ⟨m, L, f⟩ p = ((verbV m p).1, true, ⟨(verbV m p).2, L.set (p.client - 1).toNat ⟨sd.ep, p.seq, (verbV m p).1, true⟩, decide ((verbV m p).1.errno = 0)⟩) by unfold doneP; rw [← HSD.out]; rfl)
    have HSO := Lib.hid (show ∀ y ∈ L.set (p.client - 1).toNat ⟨sd.ep, p.seq, (verbV m p).1, true⟩, y.ok by have := (doP_ok HOK.out HP.out).2.2; rw [HN.out, HE.out] at this; exact this.sides)
    have HER := Lib.hid (okV_errno m p)
    have HPR := Lib.hid (show (okV p = true → preV m p = (verbV m p).1) ∧ (okV p = false → preV m p = askP p ∧ (verbV m p).1 = ansP p 35 ⟨#[]⟩ 0) from ⟨fun h => by rw [preV, if_pos h], fun h => ⟨by rw [preV, if_neg (by rw [h]; decide)], by rw [verbV_no h]; rfl⟩⟩)
    rw [← HN.out] at HE
    obtain ⟨an, han⟩ : ∃ z, z = (verbV m p).1 := ⟨_, rfl⟩
    obtain ⟨mn, hmn⟩ : ∃ z, z = (verbV m p).2 := ⟨_, rfl⟩
    obtain ⟨ok, hok⟩ : ∃ z, z = okV p := ⟨_, rfl⟩
    rw [← han] at HE HSO HER HPR
    rw [← hmn] at HE HD9
    rw [← hok] at HER HPR ⊢
    obtain ⟨w9, hw9⟩ : ∃ z, z = wc := ⟨_, rfl⟩
    rw [← hw9] at HD9 HG9 HH9 ⊢
    clear han hmn hok hv hw9 HN HD8 HG8 HH8
    cases ok with
    | true =>
      have HPY := Lib.hid (HPR.out.1 rfl)
      clear HPR
      have hg9 := HG9.out
      rw [HPY.out] at hg9
      obtain ⟨w10, hw10⟩ : ∃ z, z = w9 := ⟨_, rfl⟩
      rw [← hw10] at hg9 ⊢
      have HG10 := Lib.hid hg9
      have HD10 := Lib.hid (show RoS W w10 d z b r y mn L false p (.slice A k cc) zP from by rw [hw10]; exact HD9.out)
      have HH10 := Lib.hid (show Row w10 h sd.cells from by rw [hw10]; exact HH9.out)
      clear hw10 hg9 HD9 HG9 HH9 HPY
      go_upto_region 37 with (fail)
      have hcl := HASK.out.client
      have hq : q = (p.client.toNat - 1) * 46 := by have := HQ.out; omega
      have b0 : 0 ≤ p.client - 1 := by omega
      have b1 : p.client - 1 < 8 := by omega
      have b2 : (p.client - 1).toNat < 8 := by omega
      have e1 : wrap64 (p.client - 1) = p.client - 1 := IntWalk.wrap64_in _ (by omega)
      have e6 : IntKind.i64.wrap (p.client - 1) = p.client - 1 := IntWalk.i64_in _ (by clear e1; omega)
      have hsS := And.intro (HD10.out.hd.1.2 1 _ rfl) (And.intro (HD10.out.pk.1.2 1 _ rfl) (And.intro (show w10.cell? ⟨h, 0, none⟩ = some (.int .i64 sd.ep) from HH10.out.1.2 0 _ rfl) (And.intro (HD10.out.pk.1.2 3 _ rfl) HG10.out.1.range)))
      have hset := HD10.out.setSide HAT.out HQ.out (x := ⟨sd.ep, p.seq, an, true⟩)
      refine wp_region_held_drew (S := fun w' => w'.cell? ⟨d, 1, none⟩ = some (.slice (some ⟨z, 0, none⟩) 8 8) ∧ w'.cell? ⟨b, 1, none⟩ = some (.int .i64 p.client) ∧ w'.cell? ⟨h, 0, none⟩ = some (.int .i64 sd.ep) ∧ w'.cell? ⟨b, 3, none⟩ = some (.int .i64 p.seq) ∧ w'.rangeAt g 0 (an.cells (.slice none 0 0))) (by kernel_rfl) ?_ (fun hHeld => ?_)
      · exact hsS
      refine wpAnyH_take (i := 0) (oi := _) (v := ?_) rfl (by kernel_rfl) (by kernel_rfl) (by kernel_rfl) (fun _ _ _ h => h) (Or.inl ⟨by rfl, ?_⟩) (by assumption) ?_
      rotate_left
      · (intro w hSw; obtain ⟨q1, q2, q3, q4, -⟩ := hSw; go_simp; (try with_reducible rfl))
      simp only [Act.put, List.getElem_toArray, List.getElem_cons_zero, List.setIfInBounds_toArray, List.set_cons_zero, List.set_cons_succ]
      refine wpAnyH_take (i := 1) (oi := _) (v := ?_) rfl (by kernel_rfl) (by kernel_rfl) (by kernel_rfl) (fun _ _ _ h => h) (Or.inl ⟨by rfl, ?_⟩) (by assumption) ?_
      rotate_left
      · (intro w hSw; obtain ⟨q1, q2, q3, q4, -⟩ := hSw; go_simp; (try with_reducible rfl))
      simp only [Act.put, List.getElem_toArray, List.getElem_cons_succ, List.getElem_cons_zero, List.setIfInBounds_toArray, List.set_cons_zero, List.set_cons_succ]
      refine wpAnyH_take (i := 2) (oi := _) (v := ?_) rfl (by kernel_rfl) (by kernel_rfl) (by kernel_rfl) (fun _ _ _ h => h) (Or.inl ⟨by rfl, ?_⟩) (by assumption) ?_
      rotate_left
      · (intro w hSw; obtain ⟨q1, q2, q3, q4, -⟩ := hSw; go_simp; (try with_reducible rfl))
      simp only [Act.put, List.getElem_toArray, List.getElem_cons_succ, List.getElem_cons_zero, List.setIfInBounds_toArray, List.set_cons_zero, List.set_cons_succ]
      refine wpAnyH_take (i := 3) (oi := _) (v := ?_) rfl (by kernel_rfl) (by kernel_rfl) (by kernel_rfl) (fun _ _ _ h => h) (Or.inl ⟨by rfl, ?_⟩) (by assumption) ?_
      rotate_left
      · (intro w hSw; obtain ⟨q1, q2, q3, q4, -⟩ := hSw; go_simp; (try with_reducible rfl))
      simp only [Act.put, List.getElem_toArray, List.getElem_cons_succ, List.getElem_cons_zero, List.setIfInBounds_toArray, List.set_cons_zero, List.set_cons_succ]
      refine wpAnyH_take (i := 4) (oi := _) (v := ?_) rfl (by kernel_rfl) (by kernel_rfl) (by kernel_rfl) (fun _ _ _ h => h) (Or.inl ⟨by rfl, ?_⟩) (by assumption) ?_
      rotate_left
      · (intro w hSw; obtain ⟨q1, q2, q3, q4, -⟩ := hSw; go_simp; (try with_reducible rfl))
      simp only [Act.put, List.getElem_toArray, List.getElem_cons_succ, List.getElem_cons_zero, List.setIfInBounds_toArray, List.set_cons_zero, List.set_cons_succ]
      refine wpAnyH_take (i := 5) (oi := _) (v := ?_) rfl (by kernel_rfl) (by kernel_rfl) (by kernel_rfl) (fun _ _ _ h => h) (Or.inl ⟨by rfl, ?_⟩) (by assumption) ?_
      rotate_left
      · (intro w hSw; obtain ⟨q1, q2, q3, q4, -⟩ := hSw; go_simp; (try with_reducible rfl))
      simp only [Act.put, List.getElem_toArray, List.getElem_cons_succ, List.getElem_cons_zero, List.setIfInBounds_toArray, List.set_cons_zero, List.set_cons_succ]
      refine wpAnyH_take (i := 6) (oi := _) (v := .int .i64 (p.client - 1)) rfl (by kernel_rfl) (by kernel_rfl) (by kernel_rfl) (fun _ _ _ h => h) (Or.inl ⟨by rfl, ?_⟩) (by assumption) ?_
      · (intro w hSw; clear hSw; go_simp)
      simp only [Act.put, List.getElem_toArray, List.getElem_cons_succ, List.getElem_cons_zero, List.setIfInBounds_toArray, List.set_cons_zero, List.set_cons_succ]
      refine wpAnyH_take (i := 7) (oi := _) (v := ?_) rfl (by kernel_rfl) (by kernel_rfl) (by kernel_rfl) (fun _ _ _ h => h) (Or.inl ⟨by rfl, ?_⟩) (by assumption) ?_
      rotate_left
      · (intro w hSw; obtain ⟨q1, q2, q3, q4, -⟩ := hSw; go_simp; (try with_reducible rfl))
      simp only [Act.put, List.getElem_toArray, List.getElem_cons_succ, List.getElem_cons_zero, List.setIfInBounds_toArray, List.set_cons_zero, List.set_cons_succ]
      refine wpAnyH_take (i := 8) (oi := _) (v := ?_) rfl (by kernel_rfl) (by kernel_rfl) (by kernel_rfl) (fun _ _ _ h => h) (Or.inl ⟨by rfl, ?_⟩) (by assumption) ?_
      rotate_left
      · (intro w hSw; obtain ⟨q1, q2, q3, q4, -⟩ := hSw; go_simp; (try with_reducible rfl))
      simp only [Act.put, List.getElem_toArray, List.getElem_cons_succ, List.getElem_cons_zero, List.setIfInBounds_toArray, List.set_cons_zero, List.set_cons_succ]
      refine wpAnyH_take (i := 9) (oi := _) (v := ?_) rfl (by kernel_rfl) (by kernel_rfl) (by kernel_rfl) (fun _ _ _ h => h) (Or.inl ⟨by rfl, ?_⟩) (by assumption) ?_
      rotate_left
      · (intro w hSw; obtain ⟨q1, q2, q3, q4, -⟩ := hSw; go_simp; (try with_reducible rfl))
      simp only [Act.put, List.getElem_toArray, List.getElem_cons_succ, List.getElem_cons_zero, List.setIfInBounds_toArray, List.set_cons_zero, List.set_cons_succ]
      refine wpAnyH_take (i := 10) (oi := _) (v := ?_) rfl (by kernel_rfl) (by kernel_rfl) (by kernel_rfl) (fun _ _ _ h => h) (Or.inl ⟨by rfl, ?_⟩) (by assumption) ?_
      rotate_left
      · (intro w hSw; obtain ⟨q1, q2, q3, q4, -⟩ := hSw; go_simp; (try with_reducible rfl))
      simp only [Act.put, List.getElem_toArray, List.getElem_cons_succ, List.getElem_cons_zero, List.setIfInBounds_toArray, List.set_cons_zero, List.set_cons_succ]
      refine wpAnyH_take (i := 11) (oi := _) (v := .agg (an.cells (.slice none 0 0)).toArray) rfl (by kernel_rfl) (by kernel_rfl) (by kernel_rfl) (fun _ _ _ h => h) (yieldsIf_load_mid (by rfl) 36 (.tmp 9) rfl g 0 (by first | (go_simp; done) | rfl) (an.cells (.slice none 0 0)) _ (fun w hS => hS.2.2.2.2) Try.underlying36 rfl pk_size) (by assumption) ?_
      simp only [Act.put, List.getElem_toArray, List.getElem_cons_succ, List.getElem_cons_zero, List.setIfInBounds_toArray, List.set_cons_zero, List.set_cons_succ]
      refine wpAnyH_take (i := 12) (oi := _) (v := .agg ((⟨sd.ep, p.seq, an, true⟩ : Sd).cells).toArray) rfl (by kernel_rfl) (by kernel_rfl) (by kernel_rfl) (fun _ _ _ h => h) (Or.inl ⟨by rfl, ?_⟩) (by assumption) ?_
      · (intro w hSw; clear hSw; kernel_rfl)
      simp only [Act.put, List.getElem_toArray, List.getElem_cons_succ, List.getElem_cons_zero, List.setIfInBounds_toArray, List.set_cons_zero, List.set_cons_succ]
      refine wpAnyH_take (i := 13) (oi := _) (v := .pointer (some ⟨z, q, none⟩)) rfl (by kernel_rfl) (by kernel_rfl) (by kernel_rfl) (fun _ _ _ h => h) (Or.inl ⟨by rfl, ?_⟩) (by assumption) ?_
      · (intro w hSw; rw [hq]; clear hSw; go_simp)
      simp only [Act.put, List.getElem_toArray, List.getElem_cons_succ, List.getElem_cons_zero, List.setIfInBounds_toArray, List.set_cons_zero, List.set_cons_succ]
      have HDd := Lib.hid (HD10.out.keep ((Grow.refl w10).drew))
      have HHd := Lib.hid (HH10.out.keep ((Grow.refl w10).drew))
      have HGd := Lib.hid (HG10.out.keep ((Grow.refl w10).drew))
      have hset := HDd.out.setSide HAT.out HQ.out (x := ⟨sd.ep, p.seq, an, true⟩)
      have HTH := Lib.hid hset.1
      have HD11 := Lib.hid hset.2
      have th := setCells_turn z ((⟨sd.ep, p.seq, an, true⟩ : Sd).cells) q w10.drew
      have HH11 := Lib.hid (HHd.out.turnW th hhz)
      have HG11 := Lib.hid (HGd.out.turnW th hgz)
      clear hset th HD10 HH10 HG10 HDd HHd HGd
      refine wpAnyH_ready (rs := [14]) (by kernel_rfl) (by simp) ?_
      refine AllReadyH.cons (o := _) rfl (fun K hK => ?_) AllReadyH.nil
      refine of_wanted (by rfl) ?_
      refine wp_store_mid 64 (.tmp 208) (.tmp 207) rfl z q ((⟨sd.ep, p.seq, an, true⟩ : Sd).cells).toArray (by rfl) (by rfl) (by rw [List.size_toArray]; exact HTH.out) sd_size (all_oneCell_toArray fun v hv => List.all_eq_true.1 (Sd.one _) v hv) ?_
      refine hK.out _ _ ⟨HD11.out.hd.1.2 1 _ rfl, HD11.out.pk.1.2 1 _ rfl, HH11.out.1.2 0 _ rfl, HD11.out.pk.1.2 3 _ rfl, HG11.out.1.range⟩ (fun hHeld2 => ?_)
      clear hK K hHeld hHeld2 hsS HTH e1 e6 b0 b1 b2 hq hcl
      refine wpAnyH_done (by kernel_rfl) ?_ _
      obtain ⟨w11, hw11⟩ : ∃ u, u = w10.drew.setCells z q ((⟨sd.ep, p.seq, an, true⟩ : Sd).cells) := ⟨_, rfl⟩
      rw [show w10.drew.setCells z q ((⟨sd.ep, p.seq, an, true⟩ : Sd).cells).toArray.toList = w11 from hw11.symm]
      rw [← hw11] at HD11 HH11 HG11
      clear hw11
      obtain ⟨d2, f2⟩ := HD11.out.fresh
      go_upto_region 39 with (fail)
      have t12 : Turn (fun k => k = d) w11 (w11.setCell ⟨d, 2, none⟩ (.bool true)) := Turn.setCell (F := fun k => k = d) w11 (p := ⟨d, 2, none⟩) rfl _
      have HD12 := Lib.hid (HD11.out.setFresh true)
      have HG12 := Lib.hid (HG11.out.turnW t12 hgd)
      obtain ⟨w12, hw12⟩ : ∃ u, u = w11.setCell ⟨d, 2, none⟩ (.bool true) := ⟨_, rfl⟩
      rw [← hw12] at HD12 HG12 ⊢
      clear hw12 t12 d2 f2 HD11 HG11 HH11
      refine wp_region_list ?_
      refine wpList_loadRow rfl 36 (.tmp 9) rfl (some 214) rfl g (by first | (go_simp; done) | rfl) (an.cells (.slice none 0 0)) _ HG12.out.1 Try.underlying36 rfl pk_size ?_
      go_simp
      refine wpList_storeRow rfl 36 (.tmp 4) (.tmp 214) rfl rfl r (by first | (go_simp; done) | rfl) (an.cells (.slice none 0 0)) zP (by first | (go_simp; done) | rfl) HD12.out.res rfl pk_size (PK.one _ rfl) ?_
      intro wz rz tz sz
      have HZ := Lib.hid (HD12.out.setRes rz tz)
      clear rz tz sz
      go_wp2_with fail
      refine bodyPost_ret (ref_ret rfl rfl HZ.out.res.1 rfl) rfl ?_
      rw [HE.out, ← HER.out]
      exact ⟨rfl, HZ.out.rd20 HSO.out, HZ.out.turn⟩
    | false =>
      have HPY := Lib.hid (HPR.out.2 rfl)
      clear HPR
      have hg9 := HG9.out
      rw [HPY.out.1] at hg9
      have HGN := Lib.hid hg9
      obtain ⟨d19, f19⟩ := errno_at hg9
      clear hg9
      go_upto_region 37 with (fail)
      have t10 : Turn (fun k => k = g) w9 (w9.setCell ⟨g, 19, none⟩ (.int .i64 35)) := Turn.setCell (F := fun k => k = g) w9 (p := ⟨g, 19, none⟩) rfl _
      have HD10 := Lib.hid (HD9.out.other t10 hgF hgd hgz hgb hgr hgW)
      have HG10 := Lib.hid (show Row (w9.setCell ⟨g, 19, none⟩ (.int .i64 35)) g (an.cells (.slice none 0 0)) from by rw [HPY.out.2]; exact HGN.out.set (j := 19) (show 19 < 43 by decide))
      have HH10 := Lib.hid (HH9.out.turnW t10 (fun e => hgh e.symm))
      obtain ⟨w10, hw10⟩ : ∃ z, z = w9.setCell ⟨g, 19, none⟩ (.int .i64 35) := ⟨_, rfl⟩
      rw [← hw10] at HD10 HG10 HH10 ⊢
      clear hw10 t10 d19 f19 HD9 HG9 HH9 HPY HGN
      have hcl := HASK.out.client
      have hq : q = (p.client.toNat - 1) * 46 := by have := HQ.out; omega
      have b0 : 0 ≤ p.client - 1 := by omega
      have b1 : p.client - 1 < 8 := by omega
      have b2 : (p.client - 1).toNat < 8 := by omega
      have e1 : wrap64 (p.client - 1) = p.client - 1 := IntWalk.wrap64_in _ (by omega)
      have e6 : IntKind.i64.wrap (p.client - 1) = p.client - 1 := IntWalk.i64_in _ (by clear e1; omega)
      have hsS := And.intro (HD10.out.hd.1.2 1 _ rfl) (And.intro (HD10.out.pk.1.2 1 _ rfl) (And.intro (show w10.cell? ⟨h, 0, none⟩ = some (.int .i64 sd.ep) from HH10.out.1.2 0 _ rfl) (And.intro (HD10.out.pk.1.2 3 _ rfl) HG10.out.1.range)))
      have hset := HD10.out.setSide HAT.out HQ.out (x := ⟨sd.ep, p.seq, an, true⟩)
      refine wp_region_held_drew (S := fun w' => w'.cell? ⟨d, 1, none⟩ = some (.slice (some ⟨z, 0, none⟩) 8 8) ∧ w'.cell? ⟨b, 1, none⟩ = some (.int .i64 p.client) ∧ w'.cell? ⟨h, 0, none⟩ = some (.int .i64 sd.ep) ∧ w'.cell? ⟨b, 3, none⟩ = some (.int .i64 p.seq) ∧ w'.rangeAt g 0 (an.cells (.slice none 0 0))) (by kernel_rfl) ?_ (fun hHeld => ?_)
      · exact hsS
      refine wpAnyH_take (i := 0) (oi := _) (v := ?_) rfl (by kernel_rfl) (by kernel_rfl) (by kernel_rfl) (fun _ _ _ h => h) (Or.inl ⟨by rfl, ?_⟩) (by assumption) ?_
      rotate_left
      · (intro w hSw; obtain ⟨q1, q2, q3, q4, -⟩ := hSw; go_simp; (try with_reducible rfl))
      simp only [Act.put, List.getElem_toArray, List.getElem_cons_zero, List.setIfInBounds_toArray, List.set_cons_zero, List.set_cons_succ]
      refine wpAnyH_take (i := 1) (oi := _) (v := ?_) rfl (by kernel_rfl) (by kernel_rfl) (by kernel_rfl) (fun _ _ _ h => h) (Or.inl ⟨by rfl, ?_⟩) (by assumption) ?_
      rotate_left
      · (intro w hSw; obtain ⟨q1, q2, q3, q4, -⟩ := hSw; go_simp; (try with_reducible rfl))
      simp only [Act.put, List.getElem_toArray, List.getElem_cons_succ, List.getElem_cons_zero, List.setIfInBounds_toArray, List.set_cons_zero, List.set_cons_succ]
      refine wpAnyH_take (i := 2) (oi := _) (v := ?_) rfl (by kernel_rfl) (by kernel_rfl) (by kernel_rfl) (fun _ _ _ h => h) (Or.inl ⟨by rfl, ?_⟩) (by assumption) ?_
      rotate_left
      · (intro w hSw; obtain ⟨q1, q2, q3, q4, -⟩ := hSw; go_simp; (try with_reducible rfl))
      simp only [Act.put, List.getElem_toArray, List.getElem_cons_succ, List.getElem_cons_zero, List.setIfInBounds_toArray, List.set_cons_zero, List.set_cons_succ]
      refine wpAnyH_take (i := 3) (oi := _) (v := ?_) rfl (by kernel_rfl) (by kernel_rfl) (by kernel_rfl) (fun _ _ _ h => h) (Or.inl ⟨by rfl, ?_⟩) (by assumption) ?_
      rotate_left
      · (intro w hSw; obtain ⟨q1, q2, q3, q4, -⟩ := hSw; go_simp; (try with_reducible rfl))
      simp only [Act.put, List.getElem_toArray, List.getElem_cons_succ, List.getElem_cons_zero, List.setIfInBounds_toArray, List.set_cons_zero, List.set_cons_succ]
      refine wpAnyH_take (i := 4) (oi := _) (v := ?_) rfl (by kernel_rfl) (by kernel_rfl) (by kernel_rfl) (fun _ _ _ h => h) (Or.inl ⟨by rfl, ?_⟩) (by assumption) ?_
      rotate_left
      · (intro w hSw; obtain ⟨q1, q2, q3, q4, -⟩ := hSw; go_simp; (try with_reducible rfl))
      simp only [Act.put, List.getElem_toArray, List.getElem_cons_succ, List.getElem_cons_zero, List.setIfInBounds_toArray, List.set_cons_zero, List.set_cons_succ]
      refine wpAnyH_take (i := 5) (oi := _) (v := ?_) rfl (by kernel_rfl) (by kernel_rfl) (by kernel_rfl) (fun _ _ _ h => h) (Or.inl ⟨by rfl, ?_⟩) (by assumption) ?_
      rotate_left
      · (intro w hSw; obtain ⟨q1, q2, q3, q4, -⟩ := hSw; go_simp; (try with_reducible rfl))
      simp only [Act.put, List.getElem_toArray, List.getElem_cons_succ, List.getElem_cons_zero, List.setIfInBounds_toArray, List.set_cons_zero, List.set_cons_succ]
      refine wpAnyH_take (i := 6) (oi := _) (v := .int .i64 (p.client - 1)) rfl (by kernel_rfl) (by kernel_rfl) (by kernel_rfl) (fun _ _ _ h => h) (Or.inl ⟨by rfl, ?_⟩) (by assumption) ?_
      · (intro w hSw; clear hSw; go_simp)
      simp only [Act.put, List.getElem_toArray, List.getElem_cons_succ, List.getElem_cons_zero, List.setIfInBounds_toArray, List.set_cons_zero, List.set_cons_succ]
      refine wpAnyH_take (i := 7) (oi := _) (v := ?_) rfl (by kernel_rfl) (by kernel_rfl) (by kernel_rfl) (fun _ _ _ h => h) (Or.inl ⟨by rfl, ?_⟩) (by assumption) ?_
      rotate_left
      · (intro w hSw; obtain ⟨q1, q2, q3, q4, -⟩ := hSw; go_simp; (try with_reducible rfl))
      simp only [Act.put, List.getElem_toArray, List.getElem_cons_succ, List.getElem_cons_zero, List.setIfInBounds_toArray, List.set_cons_zero, List.set_cons_succ]
      refine wpAnyH_take (i := 8) (oi := _) (v := ?_) rfl (by kernel_rfl) (by kernel_rfl) (by kernel_rfl) (fun _ _ _ h => h) (Or.inl ⟨by rfl, ?_⟩) (by assumption) ?_
      rotate_left
      · (intro w hSw; obtain ⟨q1, q2, q3, q4, -⟩ := hSw; go_simp; (try with_reducible rfl))
      simp only [Act.put, List.getElem_toArray, List.getElem_cons_succ, List.getElem_cons_zero, List.setIfInBounds_toArray, List.set_cons_zero, List.set_cons_succ]
      refine wpAnyH_take (i := 9) (oi := _) (v := ?_) rfl (by kernel_rfl) (by kernel_rfl) (by kernel_rfl) (fun _ _ _ h => h) (Or.inl ⟨by rfl, ?_⟩) (by assumption) ?_
      rotate_left
      · (intro w hSw; obtain ⟨q1, q2, q3, q4, -⟩ := hSw; go_simp; (try with_reducible rfl))
      simp only [Act.put, List.getElem_toArray, List.getElem_cons_succ, List.getElem_cons_zero, List.setIfInBounds_toArray, List.set_cons_zero, List.set_cons_succ]
      refine wpAnyH_take (i := 10) (oi := _) (v := ?_) rfl (by kernel_rfl) (by kernel_rfl) (by kernel_rfl) (fun _ _ _ h => h) (Or.inl ⟨by rfl, ?_⟩) (by assumption) ?_
      rotate_left
      · (intro w hSw; obtain ⟨q1, q2, q3, q4, -⟩ := hSw; go_simp; (try with_reducible rfl))
      simp only [Act.put, List.getElem_toArray, List.getElem_cons_succ, List.getElem_cons_zero, List.setIfInBounds_toArray, List.set_cons_zero, List.set_cons_succ]
      refine wpAnyH_take (i := 11) (oi := _) (v := .agg (an.cells (.slice none 0 0)).toArray) rfl (by kernel_rfl) (by kernel_rfl) (by kernel_rfl) (fun _ _ _ h => h) (yieldsIf_load_mid (by rfl) 36 (.tmp 9) rfl g 0 (by first | (go_simp; done) | rfl) (an.cells (.slice none 0 0)) _ (fun w hS => hS.2.2.2.2) Try.underlying36 rfl pk_size) (by assumption) ?_
      simp only [Act.put, List.getElem_toArray, List.getElem_cons_succ, List.getElem_cons_zero, List.setIfInBounds_toArray, List.set_cons_zero, List.set_cons_succ]
      refine wpAnyH_take (i := 12) (oi := _) (v := .agg ((⟨sd.ep, p.seq, an, true⟩ : Sd).cells).toArray) rfl (by kernel_rfl) (by kernel_rfl) (by kernel_rfl) (fun _ _ _ h => h) (Or.inl ⟨by rfl, ?_⟩) (by assumption) ?_
      · (intro w hSw; clear hSw; kernel_rfl)
      simp only [Act.put, List.getElem_toArray, List.getElem_cons_succ, List.getElem_cons_zero, List.setIfInBounds_toArray, List.set_cons_zero, List.set_cons_succ]
      refine wpAnyH_take (i := 13) (oi := _) (v := .pointer (some ⟨z, q, none⟩)) rfl (by kernel_rfl) (by kernel_rfl) (by kernel_rfl) (fun _ _ _ h => h) (Or.inl ⟨by rfl, ?_⟩) (by assumption) ?_
      · (intro w hSw; rw [hq]; clear hSw; go_simp)
      simp only [Act.put, List.getElem_toArray, List.getElem_cons_succ, List.getElem_cons_zero, List.setIfInBounds_toArray, List.set_cons_zero, List.set_cons_succ]
      have HDd := Lib.hid (HD10.out.keep ((Grow.refl w10).drew))
      have HHd := Lib.hid (HH10.out.keep ((Grow.refl w10).drew))
      have HGd := Lib.hid (HG10.out.keep ((Grow.refl w10).drew))
      have hset := HDd.out.setSide HAT.out HQ.out (x := ⟨sd.ep, p.seq, an, true⟩)
      have HTH := Lib.hid hset.1
      have HD11 := Lib.hid hset.2
      have th := setCells_turn z ((⟨sd.ep, p.seq, an, true⟩ : Sd).cells) q w10.drew
      have HH11 := Lib.hid (HHd.out.turnW th hhz)
      have HG11 := Lib.hid (HGd.out.turnW th hgz)
      clear hset th HD10 HH10 HG10 HDd HHd HGd
      refine wpAnyH_ready (rs := [14]) (by kernel_rfl) (by simp) ?_
      refine AllReadyH.cons (o := _) rfl (fun K hK => ?_) AllReadyH.nil
      refine of_wanted (by rfl) ?_
      refine wp_store_mid 64 (.tmp 208) (.tmp 207) rfl z q ((⟨sd.ep, p.seq, an, true⟩ : Sd).cells).toArray (by rfl) (by rfl) (by rw [List.size_toArray]; exact HTH.out) sd_size (all_oneCell_toArray fun v hv => List.all_eq_true.1 (Sd.one _) v hv) ?_
      refine hK.out _ _ ⟨HD11.out.hd.1.2 1 _ rfl, HD11.out.pk.1.2 1 _ rfl, HH11.out.1.2 0 _ rfl, HD11.out.pk.1.2 3 _ rfl, HG11.out.1.range⟩ (fun hHeld2 => ?_)
      clear hK K hHeld hHeld2 hsS HTH e1 e6 b0 b1 b2 hq hcl
      refine wpAnyH_done (by kernel_rfl) ?_ _
      obtain ⟨w11, hw11⟩ : ∃ u, u = w10.drew.setCells z q ((⟨sd.ep, p.seq, an, true⟩ : Sd).cells) := ⟨_, rfl⟩
      rw [show w10.drew.setCells z q ((⟨sd.ep, p.seq, an, true⟩ : Sd).cells).toArray.toList = w11 from hw11.symm]
      rw [← hw11] at HD11 HH11 HG11
      clear hw11
      obtain ⟨d2, f2⟩ := HD11.out.fresh
      go_upto_region 39 with (fail)
      have t12 : Turn (fun k => k = d) w11 (w11.setCell ⟨d, 2, none⟩ (.bool false)) := Turn.setCell (F := fun k => k = d) w11 (p := ⟨d, 2, none⟩) rfl _
      have HD12 := Lib.hid (HD11.out.setFresh false)
      have HG12 := Lib.hid (HG11.out.turnW t12 hgd)
      obtain ⟨w12, hw12⟩ : ∃ u, u = w11.setCell ⟨d, 2, none⟩ (.bool false) := ⟨_, rfl⟩
      rw [← hw12] at HD12 HG12 ⊢
      clear hw12 t12 d2 f2 HD11 HG11 HH11
      refine wp_region_list ?_
      refine wpList_loadRow rfl 36 (.tmp 9) rfl (some 214) rfl g (by first | (go_simp; done) | rfl) (an.cells (.slice none 0 0)) _ HG12.out.1 Try.underlying36 rfl pk_size ?_
      go_simp
      refine wpList_storeRow rfl 36 (.tmp 4) (.tmp 214) rfl rfl r (by first | (go_simp; done) | rfl) (an.cells (.slice none 0 0)) zP (by first | (go_simp; done) | rfl) HD12.out.res rfl pk_size (PK.one _ rfl) ?_
      intro wz rz tz sz
      have HZ := Lib.hid (HD12.out.setRes rz tz)
      clear rz tz sz
      go_wp2_with fail
      refine bodyPost_ret (ref_ret rfl rfl HZ.out.res.1 rfl) rfl ?_
      rw [HE.out, ← HER.out]
      exact ⟨rfl, HZ.out.rd20 HSO.out, HZ.out.turn⟩

end Go.Proofs.Ytdlcpfgogjcciaa
