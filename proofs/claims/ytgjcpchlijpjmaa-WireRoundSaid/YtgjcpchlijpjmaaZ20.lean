/- The walk of the statement WireRound. No statement of the seat is proved here. -/
import Derived.Test.YtgjcpchlijpjmaaZ16
namespace Go.Proofs.Ytgjcpchlijpjmaa
open Go.RowKit Go.Great

set_option maxHeartbeats 16000000 in
set_option maxRecDepth 8000 in
theorem law_WireRound (p : PK) (A D : Option Addr) (m cc n dc : Nat) (bs : List UInt8) (W : World) (hr : RS W A m p.names) (hp : p.nums) (hn : bs.length = n) (hd : RB W W.heap.size D bs) (hc : n ≤ dc) :
    Calls Try.prog 5 #[.agg (p.cells (.slice A m cc)).toArray, .slice D n dc] W fun e w' => e = .returned (.bool true) ∧ Below W.heap.size W w' := by
  have HR0 := Lib.hid hr
  have HNUM := Lib.hid hp
  have HN := Lib.hid hn
  have HD := Lib.hid hd
  clear hr hp hn hd
  rw [show (p.cells (.slice A m cc)).toArray = #[.int .i64 p.kind, .int .i64 p.client, .int .i64 p.epoch, .int .i64 p.seq, .int .i64 p.op, .int .i64 p.at_, .int .i64 p.n, .string p.data, .int .i64 p.old, .int .i64 p.new, .int .i64 p.ckind, .string p.path, .string p.path2, .int .i64 p.flags, .int .i64 p.cfd, .int .i64 p.coff, .int .i64 p.cn, .string p.cdata, .int .i64 p.ino, .int .i64 p.errno, .int .i64 p.rerrno, .int .i64 p.rfd, .string p.rdata, .slice A m cc, .int .i64 p.ikind, .int .i64 p.ilinks, .int .i64 p.isize, .int .i64 p.wrote, .int .i64 p.nkind, .int .i64 p.nlinks, .int .i64 p.nsize, .int .i64 p.b0, .int .i64 p.b1, .int .i64 p.b2, .int .i64 p.b3, .int .i64 p.o0, .int .i64 p.o1, .int .i64 p.o2, .int .i64 p.o3, .int .i64 p.o4, .int .i64 p.o5, .int .i64 p.o6, .int .i64 p.o7] from rfl]
  go_enter Try.func5, Try.ntmps5
  go_upto_region 1 with (fail)
  have hb := Row.new W 35 (p.cells (.slice A m cc)) #[.int .i64 p.kind, .int .i64 p.client, .int .i64 p.epoch, .int .i64 p.seq, .int .i64 p.op, .int .i64 p.at_, .int .i64 p.n, .string p.data, .int .i64 p.old, .int .i64 p.new, .int .i64 p.ckind, .string p.path, .string p.path2, .int .i64 p.flags, .int .i64 p.cfd, .int .i64 p.coff, .int .i64 p.cn, .string p.cdata, .int .i64 p.ino, .int .i64 p.errno, .int .i64 p.rerrno, .int .i64 p.rfd, .string p.rdata, .slice A m cc, .int .i64 p.ikind, .int .i64 p.ilinks, .int .i64 p.isize, .int .i64 p.wrote, .int .i64 p.nkind, .int .i64 p.nlinks, .int .i64 p.nsize, .int .i64 p.b0, .int .i64 p.b1, .int .i64 p.b2, .int .i64 p.b3, .int .i64 p.o0, .int .i64 p.o1, .int .i64 p.o2, .int .i64 p.o3, .int .i64 p.o4, .int .i64 p.o5, .int .i64 p.o6, .int .i64 p.o7] rfl
  have ga := (Grow.refl W).alloc (.cells #[.int .i64 p.kind, .int .i64 p.client, .int .i64 p.epoch, .int .i64 p.seq, .int .i64 p.op, .int .i64 p.at_, .int .i64 p.n, .string p.data, .int .i64 p.old, .int .i64 p.new, .int .i64 p.ckind, .string p.path, .string p.path2, .int .i64 p.flags, .int .i64 p.cfd, .int .i64 p.coff, .int .i64 p.cn, .string p.cdata, .int .i64 p.ino, .int .i64 p.errno, .int .i64 p.rerrno, .int .i64 p.rfd, .string p.rdata, .slice A m cc, .int .i64 p.ikind, .int .i64 p.ilinks, .int .i64 p.isize, .int .i64 p.wrote, .int .i64 p.nkind, .int .i64 p.nlinks, .int .i64 p.nsize, .int .i64 p.b0, .int .i64 p.b1, .int .i64 p.b2, .int .i64 p.b3, .int .i64 p.o0, .int .i64 p.o1, .int .i64 p.o2, .int .i64 p.o3, .int .i64 p.o4, .int .i64 p.o5, .int .i64 p.o6, .int .i64 p.o7] 35)
  obtain ⟨w1, hw1⟩ : ∃ z, z = W.alloc (.cells #[.int .i64 p.kind, .int .i64 p.client, .int .i64 p.epoch, .int .i64 p.seq, .int .i64 p.op, .int .i64 p.at_, .int .i64 p.n, .string p.data, .int .i64 p.old, .int .i64 p.new, .int .i64 p.ckind, .string p.path, .string p.path2, .int .i64 p.flags, .int .i64 p.cfd, .int .i64 p.coff, .int .i64 p.cn, .string p.cdata, .int .i64 p.ino, .int .i64 p.errno, .int .i64 p.rerrno, .int .i64 p.rfd, .string p.rdata, .slice A m cc, .int .i64 p.ikind, .int .i64 p.ilinks, .int .i64 p.isize, .int .i64 p.wrote, .int .i64 p.nkind, .int .i64 p.nlinks, .int .i64 p.nsize, .int .i64 p.b0, .int .i64 p.b1, .int .i64 p.b2, .int .i64 p.b3, .int .i64 p.o0, .int .i64 p.o1, .int .i64 p.o2, .int .i64 p.o3, .int .i64 p.o4, .int .i64 p.o5, .int .i64 p.o6, .int .i64 p.o7] 35) := ⟨_, rfl⟩
  obtain ⟨x, hx⟩ : ∃ z, z = W.heap.size := ⟨_, rfl⟩
  rw [← hw1] at hb ga ⊢
  rw [← hx] at hb ⊢
  obtain ⟨P0, hP0⟩ : ∃ z, z = Value.agg #[.int .i64 p.kind, .int .i64 p.client, .int .i64 p.epoch, .int .i64 p.seq, .int .i64 p.op, .int .i64 p.at_, .int .i64 p.n, .string p.data, .int .i64 p.old, .int .i64 p.new, .int .i64 p.ckind, .string p.path, .string p.path2, .int .i64 p.flags, .int .i64 p.cfd, .int .i64 p.coff, .int .i64 p.cn, .string p.cdata, .int .i64 p.ino, .int .i64 p.errno, .int .i64 p.rerrno, .int .i64 p.rfd, .string p.rdata, .slice A m cc, .int .i64 p.ikind, .int .i64 p.ilinks, .int .i64 p.isize, .int .i64 p.wrote, .int .i64 p.nkind, .int .i64 p.nlinks, .int .i64 p.nsize, .int .i64 p.b0, .int .i64 p.b1, .int .i64 p.b2, .int .i64 p.b3, .int .i64 p.o0, .int .i64 p.o1, .int .i64 p.o2, .int .i64 p.o3, .int .i64 p.o4, .int .i64 p.o5, .int .i64 p.o6, .int .i64 p.o7] := ⟨_, rfl⟩
  rw [← hP0]
  have HXx := Lib.hid hb
  have HGx := Lib.hid ga
  have HQx := Lib.hid hx
  have hlx : x < w1.heap.size := hb.1.1
  clear hw1 hb ga hx hP0
  replace HR0 := Lib.hid (HR0.out.grow HGx.out)
  go_upto_region 1 with (fail)
  have hfew := few_l (c := cc) p HR0.out
  have hpok := fewP_ok HNUM.out
  obtain ⟨P, hP⟩ : ∃ z, z = fewP p := ⟨_, rfl⟩
  rw [← hP] at hfew hpok
  have HPP := Lib.hid hpok
  clear hP hpok
  refine wp_region_list ?_
  refine wpList_loadRow rfl 35 (.tmp 2) rfl (some 16) rfl x rfl (p.cells (.slice A m cc)) _ HXx.out.1 Try.underlying35 rfl pk_size ?_
  go_simp
  refine wpList_callC rfl (some 17) rfl 9 #[.agg (p.cells (.slice A m cc)).toArray] (by first | rfl | go_simp) _ hfew (fun e w' h => by obtain ⟨_, h, -⟩ := h; exact ⟨_, h⟩) ?_
  rintro v wf2 ⟨nv, he, g6, os6⟩
  obtain rfl : v = .agg (P.cells nv).toArray := by injection he
  go_simp
  refine wpList_storeRow rfl 35 (.tmp 2) (.tmp 17) rfl rfl x rfl (P.cells nv) (p.cells (.slice A m cc)) rfl (HXx.out.keep g6) rfl pk_size (PK.one _ os6.one) ?_
  intro w2 r8 t8 z8
  have OS8 : OS w2 w1.heap.size nv P.names := row_turnW os6 t8 (fun k e q => by have := (World.ownsRow.lt os6 k e).1; have q' : k = x := q; omega)
  obtain ⟨AP, cP, rfl, hrs⟩ := RS.of_OS OS8
  obtain ⟨kP, hk⟩ : ∃ z, z = P.names.length := ⟨_, rfl⟩
  rw [← hk] at hrs r8
  have HKP := Lib.hid hk
  replace HXx := Lib.hid r8
  have HRP := Lib.hid hrs
  have HNE := Lib.hid (show 0 < kP → ∀ z, AP = some z → w1.heap.size ≤ z.block from fun hn z hz => by
    subst hz
    exact (World.ownsRow.lt OS8 z.block rfl).1)
  replace hlx := r8.1.1
  have HGf2 := Lib.hid (show Turn (fun k => k = x) w1 w2 from (Turn.grow g6 _).and t8)
  clear he hfew g6 os6 OS8 hrs r8 t8 z8 hk
  have HB := Lib.hid (show Grow W w2 from HGx.out.low (HGf2.out.low (B := W.heap.size) (fun i e => by have := HQx.out; have e' : i = x := e; omega) HGx.out.size))
  have HD2 := Lib.hid (show RB w2 w2.heap.size D bs from (Rd.below HD.out HB.out).more HB.out.size)
  clear HGf2 HGx HD
  go_upto_if 20 with (fail)
  go_cut [1] (fun v wx => ∃ m, v = .slice D m dc ∧ Sl wx D m (bs.take 400) ∧ m ≤ dc ∧ m ≤ 400 ∧ w2 = wx)
  case first =>
    by_cases h : 400 < n
    · have z1 : decide (400 < n) = true := decide_eq_true h
      have z2 : decide ((400 : Int) < (n : Int)) = true := decide_eq_true (by omega)
      have HS := Lib.hid (Sl.ofTake HD2.out (n := 400) (by rw [HN.out]; omega) (by omega))
      go_wp2_with fail
      go_meet
      exact ⟨400, rfl, HS.out, by omega, Nat.le_refl _, rfl⟩
    · have z1 : decide (400 < n) = false := decide_eq_false h
      have z2 : decide ((400 : Int) < (n : Int)) = false := decide_eq_false (by omega)
      have HS := Lib.hid (show Sl w2 D n (bs.take 400) by rw [List.take_of_length_le (by rw [HN.out]; omega)]; exact Sl.ofRB HD2.out HN.out (by omega))
      go_wp2_with fail
      go_meet
      exact ⟨n, rfl, HS.out, hc, by omega, rfl⟩
  case rest =>
    obtain ⟨mm, rfl, hs, hmc, hm4, rfl⟩ := hcut
    obtain ⟨b0, hb0⟩ : ∃ z, z = bs.take 400 := ⟨_, rfl⟩
    rw [← hb0] at hs
    have HS := Lib.hid hs
    clear hs hb0 hc HN HD2
    go_upto_region 4 with (fail)
    have hput := w_putK (c := cP) P HPP.out HKP.out HRP.out
    refine wp_region_list ?_
    refine wpList_loadRow rfl 35 (.tmp 2) rfl (some 24) rfl x rfl (P.cells (.slice AP kP cP)) _ HXx.out.1 Try.underlying35 rfl pk_size ?_
    go_simp
    refine wpList_callC rfl (some 25) rfl 10 #[.agg (P.cells (.slice AP kP cP)).toArray] (by first | rfl | go_simp) _ hput (fun e w' h => by obtain ⟨_, _, _, h, -⟩ := h; exact ⟨_, h⟩) ?_
    rintro v w4 ⟨A4, n4, c4, he, ho, G4⟩
    obtain rfl : v = .tuple #[.slice A4 n4 c4, .int .i64 (putE P)] := by injection he
    have HO4 := Lib.hid (show Own w4 w2.heap.size A4 n4 c4 (putL P) from ho)
    replace HXx := Lib.hid (HXx.out.keep G4)
    replace HRP := Lib.hid (HRP.out.grow G4)
    replace HS := Lib.hid (HS.out.keep G4)
    clear he ho hput
    have HB4 := Lib.hid (Grow.trans HB.out G4)
    clear G4 HB
    obtain ⟨pe, hpe⟩ : ∃ z, z = putE P := ⟨_, rfl⟩
    rw [← hpe]
    have HPE := Lib.hid hpe
    clear hpe
    go_upto_if 29 with (fail)
    go_cut [4] (fun _ wx => Grow w4 wx)
    case first =>
      by_cases hp0 : pe = 0
      · subst hp0
        have HPR := Lib.hid (put_read HPP.out HPE.out.symm)
        go_upto_region 6 with (fail)
        have hread := w_read HO4.out.sl HO4.out.cap (by have := HO4.out.2.1; have := putL_few HPP.out; have := HO4.out.1; omega) HO4.out.sl.blk
        obtain ⟨V5, hV5⟩ : ∃ z, z = rdV (putL P) := ⟨_, rfl⟩
        obtain ⟨E5, hE5⟩ : ∃ z, z = rdE (putL P) := ⟨_, rfl⟩
        rw [← hV5, ← hE5] at hread
        have HV5 := Lib.hid hV5
        have HE5 := Lib.hid hE5
        clear hV5 hE5
        refine wp_region_list ?_
        refine wpList_runTo rfl (some 31) rfl (.slice A4 n4 c4) w4 (by first | rfl | go_simp) ?_
        refine wpList_callC rfl (some 32) rfl 14 #[.slice A4 n4 c4] (by first | rfl | go_simp) _ hread (fun e w' h => by rcases h with ⟨nv, h, -⟩; exact ⟨_, h⟩) ?_
        rintro v wr5 ⟨nv, he, g6, os6⟩
        obtain rfl : v = .tuple #[.agg (V5.cells nv).toArray, .int .i64 E5] := by injection he
        clear he hread
        go_simp
        refine wpList_runTo rfl (some 30) rfl (.tuple #[.agg (V5.cells nv).toArray, .int .i64 E5]) wr5 (by first | rfl | go_simp) ?_
        refine wpList_runTo rfl (some 33) rfl (.agg (V5.cells nv).toArray) wr5 (by go_simp) ?_
        go_simp
        refine wpList_runTo rfl (some 34) rfl (.int .i64 E5) wr5 (by go_simp) ?_
        have hy0 := Row.new wr5 35 zP #[.int .i64 0, .int .i64 0, .int .i64 0, .int .i64 0, .int .i64 0, .int .i64 0, .int .i64 0, .string ⟨#[]⟩, .int .i64 0, .int .i64 0, .int .i64 0, .string ⟨#[]⟩, .string ⟨#[]⟩, .int .i64 0, .int .i64 0, .int .i64 0, .int .i64 0, .string ⟨#[]⟩, .int .i64 0, .int .i64 0, .int .i64 0, .int .i64 0, .string ⟨#[]⟩, .slice none 0 0, .int .i64 0, .int .i64 0, .int .i64 0, .int .i64 0, .int .i64 0, .int .i64 0, .int .i64 0, .int .i64 0, .int .i64 0, .int .i64 0, .int .i64 0, .int .i64 0, .int .i64 0, .int .i64 0, .int .i64 0, .int .i64 0, .int .i64 0, .int .i64 0, .int .i64 0] rfl
        have ga := (Grow.refl wr5).alloc (.cells #[.int .i64 0, .int .i64 0, .int .i64 0, .int .i64 0, .int .i64 0, .int .i64 0, .int .i64 0, .string ⟨#[]⟩, .int .i64 0, .int .i64 0, .int .i64 0, .string ⟨#[]⟩, .string ⟨#[]⟩, .int .i64 0, .int .i64 0, .int .i64 0, .int .i64 0, .string ⟨#[]⟩, .int .i64 0, .int .i64 0, .int .i64 0, .int .i64 0, .string ⟨#[]⟩, .slice none 0 0, .int .i64 0, .int .i64 0, .int .i64 0, .int .i64 0, .int .i64 0, .int .i64 0, .int .i64 0, .int .i64 0, .int .i64 0, .int .i64 0, .int .i64 0, .int .i64 0, .int .i64 0, .int .i64 0, .int .i64 0, .int .i64 0, .int .i64 0, .int .i64 0, .int .i64 0] 35)
        refine wpList_allocTo rfl (some 7) rfl (.pointer (some ⟨wr5.heap.size, 0, none⟩)) (.cells #[.int .i64 0, .int .i64 0, .int .i64 0, .int .i64 0, .int .i64 0, .int .i64 0, .int .i64 0, .string ⟨#[]⟩, .int .i64 0, .int .i64 0, .int .i64 0, .string ⟨#[]⟩, .string ⟨#[]⟩, .int .i64 0, .int .i64 0, .int .i64 0, .int .i64 0, .string ⟨#[]⟩, .int .i64 0, .int .i64 0, .int .i64 0, .int .i64 0, .string ⟨#[]⟩, .slice none 0 0, .int .i64 0, .int .i64 0, .int .i64 0, .int .i64 0, .int .i64 0, .int .i64 0, .int .i64 0, .int .i64 0, .int .i64 0, .int .i64 0, .int .i64 0, .int .i64 0, .int .i64 0, .int .i64 0, .int .i64 0, .int .i64 0, .int .i64 0, .int .i64 0, .int .i64 0] 35) (by kernel_rfl) ?_
        go_simp
        obtain ⟨wa5, hwa⟩ : ∃ z, z = wr5.alloc (.cells #[.int .i64 0, .int .i64 0, .int .i64 0, .int .i64 0, .int .i64 0, .int .i64 0, .int .i64 0, .string ⟨#[]⟩, .int .i64 0, .int .i64 0, .int .i64 0, .string ⟨#[]⟩, .string ⟨#[]⟩, .int .i64 0, .int .i64 0, .int .i64 0, .int .i64 0, .string ⟨#[]⟩, .int .i64 0, .int .i64 0, .int .i64 0, .int .i64 0, .string ⟨#[]⟩, .slice none 0 0, .int .i64 0, .int .i64 0, .int .i64 0, .int .i64 0, .int .i64 0, .int .i64 0, .int .i64 0, .int .i64 0, .int .i64 0, .int .i64 0, .int .i64 0, .int .i64 0, .int .i64 0, .int .i64 0, .int .i64 0, .int .i64 0, .int .i64 0, .int .i64 0, .int .i64 0] 35) := ⟨_, rfl⟩
        obtain ⟨y5, hy⟩ : ∃ z, z = wr5.heap.size := ⟨_, rfl⟩
        rw [← hwa] at hy0 ga ⊢
        rw [← hy] at hy0 ⊢
        refine wpList_storeRow rfl 35 (.tmp 7) (.tmp 33) rfl rfl y5 rfl (V5.cells nv) zP rfl hy0 rfl pk_size (PK.one _ os6.one) ?_
        intro w5 r8 t8 z8
        have G5 : Grow w4 w5 := (g6.trans ga).low (t8.low (B := w4.heap.size) (fun i e => by have := g6.size; have e' : i = y5 := e; omega) (g6.trans ga).size)
        have OS8 : OS w5 w4.heap.size nv V5.names := row_turnW (os6.keep ga) t8 (fun k e q => by have := (World.ownsRow.lt os6 k e).2; have q' : k = y5 := q; omega)
        obtain ⟨AN5, cN5, rfl, hrs⟩ := RS.of_OS OS8
        have HNB5 := Lib.hid (show ∀ z, AN5 = some z → w4.heap.size ≤ z.block ∧ z.block < y5 from fun z hz => by
          subst hz
          rw [hy]
          exact World.ownsRow.lt os6 z.block rfl)
        have HOS5 := Lib.hid OS8
        obtain ⟨k5, hk5⟩ : ∃ z, z = V5.names.length := ⟨_, rfl⟩
        rw [← hk5] at hrs r8
        have HK5 := Lib.hid hk5
        have HY5 := Lib.hid r8
        have HN5 := Lib.hid hrs
        have hyl5 : y5 < w5.heap.size := r8.1.1
        have hyw5 : w4.heap.size ≤ y5 := by rw [hy]; exact g6.size
        replace HXx := Lib.hid (HXx.out.keep G5)
        replace HRP := Lib.hid (HRP.out.grow G5)
        clear g6 ga hy0 hy hwa os6 OS8 hrs r8 t8 z8 hk5
        obtain rfl : V5 = P := HV5.out.trans HPR.out.2
        obtain rfl : E5 = 0 := HE5.out.trans HPR.out.1
        go_upto_region 7 with (fail)
        have hsame := m_sameK (c := cP) (c' := cN5) V5 V5 HKP.out HK5.out HRP.out HN5.out HPP.out HPP.out
        refine wp_region_list ?_
        refine wpList_loadRow rfl 35 (.tmp 2) rfl (some 35) rfl x rfl (V5.cells (.slice AP kP cP)) _ HXx.out.1 Try.underlying35 rfl pk_size ?_
        go_simp
        refine wpList_loadRow rfl 35 (.tmp 7) rfl (some 36) rfl y5 rfl (V5.cells (.slice AN5 k5 cN5)) _ HY5.out.1 Try.underlying35 rfl pk_size ?_
        go_simp
        refine wpList_callC rfl (some 37) rfl 16 #[.agg (V5.cells (.slice AP kP cP)).toArray, .agg (V5.cells (.slice AN5 k5 cN5)).toArray] (by first | rfl | go_simp) _ hsame (fun e w' h => by obtain ⟨_, h, -⟩ := h; exact ⟨_, h⟩) ?_
        rintro v w6 ⟨b6, he, HB6, G6⟩
        obtain rfl : v = .bool b6 := by injection he

        clear he hsame
        obtain rfl : b6 = true := by rw [HB6.out]; exact decide_eq_true rfl
        have HGG := Lib.hid (Grow.trans G5 G6)
        clear G5 G6
        go_wp2_with fail
        go_meet
        exact HGG.out
      · have q1 : (pe == 0) = false := beq_eq_false_iff_ne.2 hp0
        clear hp0
        go_wp2_with fail
        go_meet
        exact Grow.refl _
    case rest =>
      obtain ⟨w7, hw7⟩ : ∃ z, z = wc := ⟨_, rfl⟩
      rw [← hw7] at hcut ⊢
      have HB7 := Lib.hid (Grow.trans HB4.out hcut)
      replace HS := Lib.hid (HS.out.keep hcut)
      clear hw7 hcut HB4 HXx HRP HO4
      go_wp2_with fail
      refine (m_sealed HS.out (by omega)).mono ?_
      rintro e w8 ⟨A8, c8, rfl, ho8, g8⟩
      have HO8 := Lib.hid ho8
      have HB8 := Lib.hid (Grow.trans HB7.out g8)
      obtain ⟨z0, hz0⟩ : ∃ z, z = sumB b0 := ⟨_, rfl⟩
      rw [← hz0] at HO8
      clear ho8 g8 hz0 HB7
      go_upto_region 11 with (fail)
      have hread := w_read HO8.out.sl HO8.out.cap (by omega) HO8.out.sl.blk
      obtain ⟨V9, hV9⟩ : ∃ z, z = rdV z0 := ⟨_, rfl⟩
      obtain ⟨E9, hE9⟩ : ∃ z, z = rdE z0 := ⟨_, rfl⟩
      rw [← hV9, ← hE9] at hread
      have HV9 := Lib.hid hV9
      have HE9 := Lib.hid hE9
      clear hV9 hE9
      refine wp_region_list ?_
      refine wpList_runTo rfl (some 47) rfl (.slice A8 (mm + 4) c8) w8 (by first | rfl | go_simp) ?_
      refine wpList_callC rfl (some 48) rfl 14 #[.slice A8 (mm + 4) c8] (by first | rfl | go_simp) _ hread (fun e w' h => by rcases h with ⟨nv, h, -⟩; exact ⟨_, h⟩) ?_
      rintro v wr9 ⟨nv, he, g6, os6⟩
      obtain rfl : v = .tuple #[.agg (V9.cells nv).toArray, .int .i64 E9] := by injection he
      clear he hread
      go_simp
      refine wpList_runTo rfl (some 46) rfl (.tuple #[.agg (V9.cells nv).toArray, .int .i64 E9]) wr9 (by first | rfl | go_simp) ?_
      refine wpList_runTo rfl (some 49) rfl (.agg (V9.cells nv).toArray) wr9 (by go_simp) ?_
      go_simp
      refine wpList_runTo rfl (some 50) rfl (.int .i64 E9) wr9 (by go_simp) ?_
      have hy0 := Row.new wr9 35 zP #[.int .i64 0, .int .i64 0, .int .i64 0, .int .i64 0, .int .i64 0, .int .i64 0, .int .i64 0, .string ⟨#[]⟩, .int .i64 0, .int .i64 0, .int .i64 0, .string ⟨#[]⟩, .string ⟨#[]⟩, .int .i64 0, .int .i64 0, .int .i64 0, .int .i64 0, .string ⟨#[]⟩, .int .i64 0, .int .i64 0, .int .i64 0, .int .i64 0, .string ⟨#[]⟩, .slice none 0 0, .int .i64 0, .int .i64 0, .int .i64 0, .int .i64 0, .int .i64 0, .int .i64 0, .int .i64 0, .int .i64 0, .int .i64 0, .int .i64 0, .int .i64 0, .int .i64 0, .int .i64 0, .int .i64 0, .int .i64 0, .int .i64 0, .int .i64 0, .int .i64 0, .int .i64 0] rfl
      have ga := (Grow.refl wr9).alloc (.cells #[.int .i64 0, .int .i64 0, .int .i64 0, .int .i64 0, .int .i64 0, .int .i64 0, .int .i64 0, .string ⟨#[]⟩, .int .i64 0, .int .i64 0, .int .i64 0, .string ⟨#[]⟩, .string ⟨#[]⟩, .int .i64 0, .int .i64 0, .int .i64 0, .int .i64 0, .string ⟨#[]⟩, .int .i64 0, .int .i64 0, .int .i64 0, .int .i64 0, .string ⟨#[]⟩, .slice none 0 0, .int .i64 0, .int .i64 0, .int .i64 0, .int .i64 0, .int .i64 0, .int .i64 0, .int .i64 0, .int .i64 0, .int .i64 0, .int .i64 0, .int .i64 0, .int .i64 0, .int .i64 0, .int .i64 0, .int .i64 0, .int .i64 0, .int .i64 0, .int .i64 0, .int .i64 0] 35)
      refine wpList_allocTo rfl (some 11) rfl (.pointer (some ⟨wr9.heap.size, 0, none⟩)) (.cells #[.int .i64 0, .int .i64 0, .int .i64 0, .int .i64 0, .int .i64 0, .int .i64 0, .int .i64 0, .string ⟨#[]⟩, .int .i64 0, .int .i64 0, .int .i64 0, .string ⟨#[]⟩, .string ⟨#[]⟩, .int .i64 0, .int .i64 0, .int .i64 0, .int .i64 0, .string ⟨#[]⟩, .int .i64 0, .int .i64 0, .int .i64 0, .int .i64 0, .string ⟨#[]⟩, .slice none 0 0, .int .i64 0, .int .i64 0, .int .i64 0, .int .i64 0, .int .i64 0, .int .i64 0, .int .i64 0, .int .i64 0, .int .i64 0, .int .i64 0, .int .i64 0, .int .i64 0, .int .i64 0, .int .i64 0, .int .i64 0, .int .i64 0, .int .i64 0, .int .i64 0, .int .i64 0] 35) (by kernel_rfl) ?_
      go_simp
      obtain ⟨wa9, hwa⟩ : ∃ z, z = wr9.alloc (.cells #[.int .i64 0, .int .i64 0, .int .i64 0, .int .i64 0, .int .i64 0, .int .i64 0, .int .i64 0, .string ⟨#[]⟩, .int .i64 0, .int .i64 0, .int .i64 0, .string ⟨#[]⟩, .string ⟨#[]⟩, .int .i64 0, .int .i64 0, .int .i64 0, .int .i64 0, .string ⟨#[]⟩, .int .i64 0, .int .i64 0, .int .i64 0, .int .i64 0, .string ⟨#[]⟩, .slice none 0 0, .int .i64 0, .int .i64 0, .int .i64 0, .int .i64 0, .int .i64 0, .int .i64 0, .int .i64 0, .int .i64 0, .int .i64 0, .int .i64 0, .int .i64 0, .int .i64 0, .int .i64 0, .int .i64 0, .int .i64 0, .int .i64 0, .int .i64 0, .int .i64 0, .int .i64 0] 35) := ⟨_, rfl⟩
      obtain ⟨y9, hy⟩ : ∃ z, z = wr9.heap.size := ⟨_, rfl⟩
      rw [← hwa] at hy0 ga ⊢
      rw [← hy] at hy0 ⊢
      refine wpList_storeRow rfl 35 (.tmp 11) (.tmp 49) rfl rfl y9 rfl (V9.cells nv) zP rfl hy0 rfl pk_size (PK.one _ os6.one) ?_
      intro w9 r8 t8 z8
      have G9 : Grow w8 w9 := (g6.trans ga).low (t8.low (B := w8.heap.size) (fun i e => by have := g6.size; have e' : i = y9 := e; omega) (g6.trans ga).size)
      have OS8 : OS w9 w8.heap.size nv V9.names := row_turnW (os6.keep ga) t8 (fun k e q => by have := (World.ownsRow.lt os6 k e).2; have q' : k = y9 := q; omega)
      obtain ⟨AN9, cN9, rfl, hrs⟩ := RS.of_OS OS8
      have HNB9 := Lib.hid (show ∀ z, AN9 = some z → w8.heap.size ≤ z.block ∧ z.block < y9 from fun z hz => by
        subst hz
        rw [hy]
        exact World.ownsRow.lt os6 z.block rfl)
      have HOS9 := Lib.hid OS8
      obtain ⟨k9, hk9⟩ : ∃ z, z = V9.names.length := ⟨_, rfl⟩
      rw [← hk9] at hrs r8
      have HK9 := Lib.hid hk9
      have HY9 := Lib.hid r8
      have HN9 := Lib.hid hrs
      have hyl9 : y9 < w9.heap.size := r8.1.1
      have hyw9 : w8.heap.size ≤ y9 := by rw [hy]; exact g6.size
      replace HO8 := Lib.hid (HO8.out.keepW G9)
      clear g6 ga hy0 hy hwa os6 OS8 hrs r8 t8 z8 hk9
      have HB9 := Lib.hid (Grow.trans HB8.out G9)
      clear G9 HB8
      go_upto_if 52 with (fail)
      go_cut [4] (fun _ wx => Grow w9 wx)
      case first =>
        by_cases he0 : E9 = 0
        · have HRP9 := Lib.hid (read_put (HE9.out.symm.trans he0))
          have HPE9 := Lib.hid (show putE V9 = 0 by rw [HV9.out]; exact HRP9.out.2.1)
          have HPL9 := Lib.hid (show putL V9 = z0 by rw [HV9.out]; exact HRP9.out.2.2)
          have HOKV := Lib.hid (show V9.ok by rw [HV9.out]; exact rdV_ok z0)
          subst he0
          go_upto_region 13 with (fail)
          have hput := w_putK (c := cN9) V9 HOKV.out HK9.out HN9.out
          refine wp_region_list ?_
          refine wpList_loadRow rfl 35 (.tmp 11) rfl (some 54) rfl y9 rfl (V9.cells (.slice AN9 k9 cN9)) _ HY9.out.1 Try.underlying35 rfl pk_size ?_
          go_simp
          refine wpList_callC rfl (some 55) rfl 10 #[.agg (V9.cells (.slice AN9 k9 cN9)).toArray] (by first | rfl | go_simp) _ hput (fun e w' h => by obtain ⟨_, _, _, h, -⟩ := h; exact ⟨_, h⟩) ?_
          rintro v w10 ⟨A10, n10, c10, he, ho, G10⟩
          obtain rfl : v = .tuple #[.slice A10 n10 c10, .int .i64 (putE V9)] := by injection he
          have HO10 := Lib.hid (show Own w10 w9.heap.size A10 n10 c10 (putL V9) from ho)
          replace HO8 := Lib.hid (HO8.out.keepW G10)
          clear he ho hput
          rw [HPE9.out]
          rw [HPL9.out] at HO10
          go_wp2_with fail
          refine (same_yes HO10.out.sl HO8.out.sl rfl).mono ?_
          rintro e w11 ⟨rfl, k11, hw11⟩
          have HGG := Lib.hid (Grow.trans G10 (show Grow w10 w11 by rw [hw11]; exact (Grow.refl _).drewN _))
          clear hw11 G10
          go_wp2_with fail
          go_meet
          exact HGG.out
        · have q1 : (E9 == 0) = false := beq_eq_false_iff_ne.2 he0
          clear he0
          go_wp2_with fail
          go_meet
          exact Grow.refl _
      case rest =>
        have HBZ := Lib.hid (Grow.trans HB9.out hcut)
        clear hcut HB9 HY9 HN9 HOS9
        go_wp2_with fail
        refine (lives7 _).mono ?_
        rintro e w12 ⟨rfl, g12⟩
        have HBY := Lib.hid (Grow.trans HBZ.out g12)
        clear g12
        go_wp2_with fail
        go_ret
        exact ⟨rfl, HBY.out⟩
end Go.Proofs.Ytgjcpchlijpjmaa
