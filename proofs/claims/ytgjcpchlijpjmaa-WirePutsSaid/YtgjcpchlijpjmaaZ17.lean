/- The walk of the statement WirePuts. No statement of the seat is proved here. -/
import Derived.Test.YtgjcpchlijpjmaaZ16
namespace Go.Proofs.Ytgjcpchlijpjmaa
open Go.RowKit Go.Great

set_option maxHeartbeats 16000000 in
set_option maxRecDepth 8000 in
theorem law_WirePuts (p : PK) (A : Option Addr) (m cc : Nat) (W : World) (hr : RS W A m p.names) (hp : p.nums) :
    Calls Try.prog 3 #[.agg (p.cells (.slice A m cc)).toArray] W fun e w' => e = .returned (.bool true) ∧ Below W.heap.size W w' := by
  have HR0 := Lib.hid hr
  have HNUM := Lib.hid hp
  clear hr hp
  rw [show (p.cells (.slice A m cc)).toArray = #[.int .i64 p.kind, .int .i64 p.client, .int .i64 p.epoch, .int .i64 p.seq, .int .i64 p.op, .int .i64 p.at_, .int .i64 p.n, .string p.data, .int .i64 p.old, .int .i64 p.new, .int .i64 p.ckind, .string p.path, .string p.path2, .int .i64 p.flags, .int .i64 p.cfd, .int .i64 p.coff, .int .i64 p.cn, .string p.cdata, .int .i64 p.ino, .int .i64 p.errno, .int .i64 p.rerrno, .int .i64 p.rfd, .string p.rdata, .slice A m cc, .int .i64 p.ikind, .int .i64 p.ilinks, .int .i64 p.isize, .int .i64 p.wrote, .int .i64 p.nkind, .int .i64 p.nlinks, .int .i64 p.nsize, .int .i64 p.b0, .int .i64 p.b1, .int .i64 p.b2, .int .i64 p.b3, .int .i64 p.o0, .int .i64 p.o1, .int .i64 p.o2, .int .i64 p.o3, .int .i64 p.o4, .int .i64 p.o5, .int .i64 p.o6, .int .i64 p.o7] from rfl]
  go_enter Try.func3, Try.ntmps3
  go_upto_region 1 with (fail)
  have hb := Row.new W 35 (p.cells (.slice A m cc)) #[.int .i64 p.kind, .int .i64 p.client, .int .i64 p.epoch, .int .i64 p.seq, .int .i64 p.op, .int .i64 p.at_, .int .i64 p.n, .string p.data, .int .i64 p.old, .int .i64 p.new, .int .i64 p.ckind, .string p.path, .string p.path2, .int .i64 p.flags, .int .i64 p.cfd, .int .i64 p.coff, .int .i64 p.cn, .string p.cdata, .int .i64 p.ino, .int .i64 p.errno, .int .i64 p.rerrno, .int .i64 p.rfd, .string p.rdata, .slice A m cc, .int .i64 p.ikind, .int .i64 p.ilinks, .int .i64 p.isize, .int .i64 p.wrote, .int .i64 p.nkind, .int .i64 p.nlinks, .int .i64 p.nsize, .int .i64 p.b0, .int .i64 p.b1, .int .i64 p.b2, .int .i64 p.b3, .int .i64 p.o0, .int .i64 p.o1, .int .i64 p.o2, .int .i64 p.o3, .int .i64 p.o4, .int .i64 p.o5, .int .i64 p.o6, .int .i64 p.o7] rfl
  have ga := (Grow.refl W).alloc (.cells #[.int .i64 p.kind, .int .i64 p.client, .int .i64 p.epoch, .int .i64 p.seq, .int .i64 p.op, .int .i64 p.at_, .int .i64 p.n, .string p.data, .int .i64 p.old, .int .i64 p.new, .int .i64 p.ckind, .string p.path, .string p.path2, .int .i64 p.flags, .int .i64 p.cfd, .int .i64 p.coff, .int .i64 p.cn, .string p.cdata, .int .i64 p.ino, .int .i64 p.errno, .int .i64 p.rerrno, .int .i64 p.rfd, .string p.rdata, .slice A m cc, .int .i64 p.ikind, .int .i64 p.ilinks, .int .i64 p.isize, .int .i64 p.wrote, .int .i64 p.nkind, .int .i64 p.nlinks, .int .i64 p.nsize, .int .i64 p.b0, .int .i64 p.b1, .int .i64 p.b2, .int .i64 p.b3, .int .i64 p.o0, .int .i64 p.o1, .int .i64 p.o2, .int .i64 p.o3, .int .i64 p.o4, .int .i64 p.o5, .int .i64 p.o6, .int .i64 p.o7] 35)
  obtain ⟨w1, hw1⟩ : ∃ z, z = W.alloc (.cells #[.int .i64 p.kind, .int .i64 p.client, .int .i64 p.epoch, .int .i64 p.seq, .int .i64 p.op, .int .i64 p.at_, .int .i64 p.n, .string p.data, .int .i64 p.old, .int .i64 p.new, .int .i64 p.ckind, .string p.path, .string p.path2, .int .i64 p.flags, .int .i64 p.cfd, .int .i64 p.coff, .int .i64 p.cn, .string p.cdata, .int .i64 p.ino, .int .i64 p.errno, .int .i64 p.rerrno, .int .i64 p.rfd, .string p.rdata, .slice A m cc, .int .i64 p.ikind, .int .i64 p.ilinks, .int .i64 p.isize, .int .i64 p.wrote, .int .i64 p.nkind, .int .i64 p.nlinks, .int .i64 p.nsize, .int .i64 p.b0, .int .i64 p.b1, .int .i64 p.b2, .int .i64 p.b3, .int .i64 p.o0, .int .i64 p.o1, .int .i64 p.o2, .int .i64 p.o3, .int .i64 p.o4, .int .i64 p.o5, .int .i64 p.o6, .int .i64 p.o7] 35) := ⟨_, rfl⟩
  obtain ⟨x, hx⟩ : ∃ z, z = W.heap.size := ⟨_, rfl⟩
  rw [← hw1] at hb ga ⊢
  rw [← hx] at hb ⊢
  obtain ⟨P0, hP0⟩ : ∃ z, z = Value.agg #[.int .i64 p.kind, .int .i64 p.client, .int .i64 p.epoch, .int .i64 p.seq, .int .i64 p.op, .int .i64 p.at_, .int .i64 p.n, .string p.data, .int .i64 p.old, .int .i64 p.new, .int .i64 p.ckind, .string p.path, .string p.path2, .int .i64 p.flags, .int .i64 p.cfd, .int .i64 p.coff, .int .i64 p.cn, .string p.cdata, .int .i64 p.ino, .int .i64 p.errno, .int .i64 p.rerrno, .int .i64 p.rfd, .string p.rdata, .slice A m cc, .int .i64 p.ikind, .int .i64 p.ilinks, .int .i64 p.isize, .int .i64 p.wrote, .int .i64 p.nkind, .int .i64 p.nlinks, .int .i64 p.nsize, .int .i64 p.b0, .int .i64 p.b1, .int .i64 p.b2, .int .i64 p.b3, .int .i64 p.o0, .int .i64 p.o1, .int .i64 p.o2, .int .i64 p.o3, .int .i64 p.o4, .int .i64 p.o5, .int .i64 p.o6, .int .i64 p.o7] := ⟨_, rfl⟩
  rw [← hP0]
  have HXx := Lib.hid hb
  have HGx := Lib.hid ga
  have HQx := Lib.hid hx
  have hlx : x < w1.heap.size := hb.1.1
  clear hw1 hb ga hx hP0
  replace HR0 := Lib.hid (HR0.out.grow HGx.out)
  go_upto_region 1 with (fail)
  have hfew := few_l (c := cc) p HR0.out
  have hpok := fewP_ok HNUM.out
  obtain ⟨P, hP⟩ : ∃ z, z = fewP p := ⟨_, rfl⟩
  rw [← hP] at hfew hpok
  have HPP := Lib.hid hpok
  clear hP hpok
  refine wp_region_list ?_
  refine wpList_loadRow rfl 35 (.tmp 1) rfl (some 8) rfl x rfl (p.cells (.slice A m cc)) _ HXx.out.1 Try.underlying35 rfl pk_size ?_
  go_simp
  refine wpList_callC rfl (some 9) rfl 9 #[.agg (p.cells (.slice A m cc)).toArray] (by first | rfl | go_simp) _ hfew (fun e w' h => by obtain ⟨_, h, -⟩ := h; exact ⟨_, h⟩) ?_
  rintro v wf2 ⟨nv, he, g6, os6⟩
  obtain rfl : v = .agg (P.cells nv).toArray := by injection he
  go_simp
  refine wpList_storeRow rfl 35 (.tmp 1) (.tmp 9) rfl rfl x rfl (P.cells nv) (p.cells (.slice A m cc)) rfl (HXx.out.keep g6) rfl pk_size (PK.one _ os6.one) ?_
  intro w2 r8 t8 z8
  have OS8 : OS w2 w1.heap.size nv P.names := row_turnW os6 t8 (fun k e q => by have := (World.ownsRow.lt os6 k e).1; have q' : k = x := q; omega)
  obtain ⟨AP, cP, rfl, hrs⟩ := RS.of_OS OS8
  obtain ⟨kP, hk⟩ : ∃ z, z = P.names.length := ⟨_, rfl⟩
  rw [← hk] at hrs r8
  have HKP := Lib.hid hk
  replace HXx := Lib.hid r8
  have HRP := Lib.hid hrs
  have HNE := Lib.hid (show 0 < kP → ∀ z, AP = some z → w1.heap.size ≤ z.block from fun hn z hz => by
    subst hz
    exact (World.ownsRow.lt OS8 z.block rfl).1)
  replace hlx := r8.1.1
  have HGf2 := Lib.hid (show Turn (fun k => k = x) w1 w2 from (Turn.grow g6 _).and t8)
  clear he hfew g6 os6 OS8 hrs r8 t8 z8 hk
  have HB := Lib.hid (show Grow W w2 from HGx.out.low (HGf2.out.low (B := W.heap.size) (fun i e => by have := HQx.out; have e' : i = x := e; omega) HGx.out.size))
  clear HGf2 HGx
  go_upto_region 2 with (fail)
  have hput := w_putK (c := cP) P HPP.out HKP.out HRP.out
  refine wp_region_list ?_
  refine wpList_loadRow rfl 35 (.tmp 1) rfl (some 11) rfl x rfl (P.cells (.slice AP kP cP)) _ HXx.out.1 Try.underlying35 rfl pk_size ?_
  go_simp
  refine wpList_callC rfl (some 12) rfl 10 #[.agg (P.cells (.slice AP kP cP)).toArray] (by first | rfl | go_simp) _ hput (fun e w' h => by obtain ⟨_, _, _, h, -⟩ := h; exact ⟨_, h⟩) ?_
  rintro v w3 ⟨A3, n3, c3, he, ho, G3⟩
  obtain rfl : v = .tuple #[.slice A3 n3 c3, .int .i64 (putE P)] := by injection he
  have HO3 := Lib.hid (show Own w3 w2.heap.size A3 n3 c3 (putL P) from ho)
  replace HXx := Lib.hid (HXx.out.keep G3)
  replace HRP := Lib.hid (HRP.out.grow G3)
  clear he ho hput
  go_upto_region 3 with (fail)
  have hput := m_putK (c := cP) P HPP.out HKP.out HRP.out
  refine wp_region_list ?_
  refine wpList_loadRow rfl 35 (.tmp 1) rfl (some 16) rfl x rfl (P.cells (.slice AP kP cP)) _ HXx.out.1 Try.underlying35 rfl pk_size ?_
  go_simp
  refine wpList_callC rfl (some 17) rfl 11 #[.agg (P.cells (.slice AP kP cP)).toArray] (by first | rfl | go_simp) _ hput (fun e w' h => by obtain ⟨_, _, _, h, -⟩ := h; exact ⟨_, h⟩) ?_
  rintro v w4 ⟨A4, n4, c4, he, ho, G4⟩
  obtain rfl : v = .tuple #[.slice A4 n4 c4, .int .i64 (putE P)] := by injection he
  have HO4 := Lib.hid (show Own w4 w3.heap.size A4 n4 c4 (putL P) from ho)
  replace HO3 := Lib.hid (HO3.out.keepW G4)
  clear he ho hput
  have HB4 := Lib.hid (Grow.trans (Grow.trans HB.out G3) G4)
  clear G3 G4 HB
  go_wp2_with fail
  refine (same_yes HO3.out.sl HO4.out.sl rfl).mono ?_
  rintro e w5 ⟨rfl, k5, hw5⟩
  have HB5 := Lib.hid (Grow.trans HB4.out (show Grow w4 w5 by rw [hw5]; exact (Grow.refl _).drewN _))
  clear hw5 HB4
  obtain ⟨pe, hpe⟩ : ∃ z, z = putE P := ⟨_, rfl⟩
  rw [← hpe]
  clear hpe
  have z1 : (pe == pe) = true := beq_self_eq_true pe
  go_wp2_with fail
  refine (lives7 _).mono ?_
  rintro e w6 ⟨rfl, g6⟩
  have HB6 := Lib.hid (Grow.trans HB5.out g6)
  clear g6
  go_wp2_with fail
  go_ret
  exact ⟨rfl, HB6.out⟩
end Go.Proofs.Ytgjcpchlijpjmaa
