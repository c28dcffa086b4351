/- The walk of the statement WireTurned. No statement of the seat is proved here. -/
import Derived.Test.YtgjcpchlijpjmaaZ16
namespace Go.Proofs.Ytgjcpchlijpjmaa
open Go.RowKit Go.Great

theorem rdE_turned {l : List UInt8} {k : Nat} {x : UInt8} (hk : k < (sumB l).length) (hx : x ≠ (sumB l)[k]) : rdE ((sumB l).set k x) = 4 := by
  have hl : ((sumB l).set k x).length = l.length + 4 := by rw [List.length_set, sumB_length]
  have he : ((sumB l).set k x).length - 4 = l.length := by omega
  refine (rdE_sum (by omega) ?_).1
  rw [he]
  exact sum_turned hk hx

set_option maxHeartbeats 16000000 in
set_option maxRecDepth 8000 in
theorem law_WireTurned (p : PK) (A : Option Addr) (m cc : Nat) (at_ : Int) (h0 : -9223372036854775808 ≤ at_) (h1 : at_ ≤ 9223372036854775807) (xw : UInt8) (W : World) (hr : RS W A m p.names) (hp : p.nums) :
    Calls Try.prog 6 #[.agg (p.cells (.slice A m cc)).toArray, .int .i64 at_, .int .u8 (xw.toNat : Int)] W fun e w' => e = .returned (.bool true) ∧ Below W.heap.size W w' := by
  have HR0 := Lib.hid hr
  have HNUM := Lib.hid hp
  have HA0 := Lib.hid h0
  have HA1 := Lib.hid h1
  clear hr hp h0 h1
  rw [show (p.cells (.slice A m cc)).toArray = #[.int .i64 p.kind, .int .i64 p.client, .int .i64 p.epoch, .int .i64 p.seq, .int .i64 p.op, .int .i64 p.at_, .int .i64 p.n, .string p.data, .int .i64 p.old, .int .i64 p.new, .int .i64 p.ckind, .string p.path, .string p.path2, .int .i64 p.flags, .int .i64 p.cfd, .int .i64 p.coff, .int .i64 p.cn, .string p.cdata, .int .i64 p.ino, .int .i64 p.errno, .int .i64 p.rerrno, .int .i64 p.rfd, .string p.rdata, .slice A m cc, .int .i64 p.ikind, .int .i64 p.ilinks, .int .i64 p.isize, .int .i64 p.wrote, .int .i64 p.nkind, .int .i64 p.nlinks, .int .i64 p.nsize, .int .i64 p.b0, .int .i64 p.b1, .int .i64 p.b2, .int .i64 p.b3, .int .i64 p.o0, .int .i64 p.o1, .int .i64 p.o2, .int .i64 p.o3, .int .i64 p.o4, .int .i64 p.o5, .int .i64 p.o6, .int .i64 p.o7] from rfl]
  go_enter Try.func6, Try.ntmps6
  go_upto_region 1 with (fail)
  have hb := Row.new W 35 (p.cells (.slice A m cc)) #[.int .i64 p.kind, .int .i64 p.client, .int .i64 p.epoch, .int .i64 p.seq, .int .i64 p.op, .int .i64 p.at_, .int .i64 p.n, .string p.data, .int .i64 p.old, .int .i64 p.new, .int .i64 p.ckind, .string p.path, .string p.path2, .int .i64 p.flags, .int .i64 p.cfd, .int .i64 p.coff, .int .i64 p.cn, .string p.cdata, .int .i64 p.ino, .int .i64 p.errno, .int .i64 p.rerrno, .int .i64 p.rfd, .string p.rdata, .slice A m cc, .int .i64 p.ikind, .int .i64 p.ilinks, .int .i64 p.isize, .int .i64 p.wrote, .int .i64 p.nkind, .int .i64 p.nlinks, .int .i64 p.nsize, .int .i64 p.b0, .int .i64 p.b1, .int .i64 p.b2, .int .i64 p.b3, .int .i64 p.o0, .int .i64 p.o1, .int .i64 p.o2, .int .i64 p.o3, .int .i64 p.o4, .int .i64 p.o5, .int .i64 p.o6, .int .i64 p.o7] rfl
  have ga := (Grow.refl W).alloc (.cells #[.int .i64 p.kind, .int .i64 p.client, .int .i64 p.epoch, .int .i64 p.seq, .int .i64 p.op, .int .i64 p.at_, .int .i64 p.n, .string p.data, .int .i64 p.old, .int .i64 p.new, .int .i64 p.ckind, .string p.path, .string p.path2, .int .i64 p.flags, .int .i64 p.cfd, .int .i64 p.coff, .int .i64 p.cn, .string p.cdata, .int .i64 p.ino, .int .i64 p.errno, .int .i64 p.rerrno, .int .i64 p.rfd, .string p.rdata, .slice A m cc, .int .i64 p.ikind, .int .i64 p.ilinks, .int .i64 p.isize, .int .i64 p.wrote, .int .i64 p.nkind, .int .i64 p.nlinks, .int .i64 p.nsize, .int .i64 p.b0, .int .i64 p.b1, .int .i64 p.b2, .int .i64 p.b3, .int .i64 p.o0, .int .i64 p.o1, .int .i64 p.o2, .int .i64 p.o3, .int .i64 p.o4, .int .i64 p.o5, .int .i64 p.o6, .int .i64 p.o7] 35)
  obtain ⟨w1, hw1⟩ : ∃ z, z = W.alloc (.cells #[.int .i64 p.kind, .int .i64 p.client, .int .i64 p.epoch, .int .i64 p.seq, .int .i64 p.op, .int .i64 p.at_, .int .i64 p.n, .string p.data, .int .i64 p.old, .int .i64 p.new, .int .i64 p.ckind, .string p.path, .string p.path2, .int .i64 p.flags, .int .i64 p.cfd, .int .i64 p.coff, .int .i64 p.cn, .string p.cdata, .int .i64 p.ino, .int .i64 p.errno, .int .i64 p.rerrno, .int .i64 p.rfd, .string p.rdata, .slice A m cc, .int .i64 p.ikind, .int .i64 p.ilinks, .int .i64 p.isize, .int .i64 p.wrote, .int .i64 p.nkind, .int .i64 p.nlinks, .int .i64 p.nsize, .int .i64 p.b0, .int .i64 p.b1, .int .i64 p.b2, .int .i64 p.b3, .int .i64 p.o0, .int .i64 p.o1, .int .i64 p.o2, .int .i64 p.o3, .int .i64 p.o4, .int .i64 p.o5, .int .i64 p.o6, .int .i64 p.o7] 35) := ⟨_, rfl⟩
  obtain ⟨x, hx⟩ : ∃ z, z = W.heap.size := ⟨_, rfl⟩
  rw [← hw1] at hb ga ⊢
  rw [← hx] at hb ⊢
  obtain ⟨P0, hP0⟩ : ∃ z, z = Value.agg #[.int .i64 p.kind, .int .i64 p.client, .int .i64 p.epoch, .int .i64 p.seq, .int .i64 p.op, .int .i64 p.at_, .int .i64 p.n, .string p.data, .int .i64 p.old, .int .i64 p.new, .int .i64 p.ckind, .string p.path, .string p.path2, .int .i64 p.flags, .int .i64 p.cfd, .int .i64 p.coff, .int .i64 p.cn, .string p.cdata, .int .i64 p.ino, .int .i64 p.errno, .int .i64 p.rerrno, .int .i64 p.rfd, .string p.rdata, .slice A m cc, .int .i64 p.ikind, .int .i64 p.ilinks, .int .i64 p.isize, .int .i64 p.wrote, .int .i64 p.nkind, .int .i64 p.nlinks, .int .i64 p.nsize, .int .i64 p.b0, .int .i64 p.b1, .int .i64 p.b2, .int .i64 p.b3, .int .i64 p.o0, .int .i64 p.o1, .int .i64 p.o2, .int .i64 p.o3, .int .i64 p.o4, .int .i64 p.o5, .int .i64 p.o6, .int .i64 p.o7] := ⟨_, rfl⟩
  rw [← hP0]
  have HXx := Lib.hid hb
  have HGx := Lib.hid ga
  have HQx := Lib.hid hx
  have hlx : x < w1.heap.size := hb.1.1
  clear hw1 hb ga hx hP0
  replace HR0 := Lib.hid (HR0.out.grow HGx.out)
  have hfew := few_l (c := cc) p HR0.out
  have hpok := fewP_ok HNUM.out
  obtain ⟨P, hP⟩ : ∃ z, z = fewP p := ⟨_, rfl⟩
  rw [← hP] at hfew hpok
  have HPP := Lib.hid hpok
  clear hP hpok
  refine wp_region_list ?_
  refine wpList_loadRow rfl 35 (.tmp 3) rfl (some 13) rfl x rfl (p.cells (.slice A m cc)) _ HXx.out.1 Try.underlying35 rfl pk_size ?_
  go_simp
  refine wpList_callC rfl (some 14) rfl 9 #[.agg (p.cells (.slice A m cc)).toArray] (by first | rfl | go_simp) _ hfew (fun e w' h => by obtain ⟨_, h, -⟩ := h; exact ⟨_, h⟩) ?_
  rintro v w2 ⟨nv, he, g6, os6⟩
  obtain rfl : v = .agg (P.cells nv).toArray := by injection he
  obtain ⟨AP, cP, rfl, hrs⟩ := RS.of_OS os6
  obtain ⟨kP, hk⟩ : ∃ z, z = P.names.length := ⟨_, rfl⟩
  rw [← hk] at hrs ⊢
  have hput := w_putK (c := cP) P HPP.out hk hrs
  go_simp
  refine wpList_callC rfl (some 15) rfl 10 #[.agg (P.cells (.slice AP kP cP)).toArray] (by first | rfl | go_simp) _ hput (fun e w' h => by obtain ⟨_, _, _, h, -⟩ := h; exact ⟨_, h⟩) ?_
  rintro v w3 ⟨A3, n3, c3, he3, ho, G3⟩
  obtain rfl : v = .tuple #[.slice A3 n3 c3, .int .i64 (putE P)] := by injection he3
  have HB := Lib.hid (Grow.trans (Grow.trans HGx.out g6) G3)
  have HOB := Lib.hid (show Own w3 W.heap.size A3 n3 c3 (putL P) from ho.low (by have := (Grow.trans HGx.out g6).size; omega))
  clear he he3 hfew hput g6 os6 hrs hk ho G3 HXx HGx
  obtain ⟨pe, hpe⟩ : ∃ z, z = putE P := ⟨_, rfl⟩
  rw [← hpe]
  have HPE := Lib.hid hpe
  clear hpe
  by_cases hp0 : pe = 0
  · subst hp0
    obtain ⟨l, hl1, hl2, hl3, -⟩ := putE_ok HPE.out.symm
    have HSL := Lib.hid hl3
    have hlen := HOB.out.1
    have hn4 : 4 ≤ n3 := by rw [← hlen, hl3, sumB_length]; omega
    have hnb : n3 ≤ 500000 := by rw [← hlen]; exact putL_few HPP.out
    clear hl1 hl2 hl3
    have z0 : ((n3 : Int) == 0) = false := by rw [beq_eq_false_iff_ne]; omega
    have z1 : decide ((0 : Int) < (n3 : Int)) = true := decide_eq_true (by omega)
    have z2 : decide (0 < n3) = true := decide_eq_true (by omega)
    have z3 : ¬ n3 = 0 := by omega
    by_cases hx0 : xw = 0
    · subst hx0
      go_wp2_with fail
      refine (lives7 _).mono ?_
      rintro e w8 ⟨rfl, g8⟩
      have HB9 := Lib.hid (Grow.trans HB.out g8)
      clear g8
      go_wp2_with fail
      go_ret
      exact ⟨rfl, HB9.out⟩
    · have hx1 : ((xw.toNat : Int) == 0) = false := by
        rw [beq_eq_false_iff_ne]
        intro e
        exact hx0 (UInt8.toNat_inj.1 (by simpa using e))
      have HXW := Lib.hid hx0
      clear hx0
      go_upto_if 40 with (fail)
      go_cut [1] (fun v wx => ∃ t : Nat, v = .int .i64 (t : Int) ∧ (t : Int) ≤ 9223372036854775807 ∧ w3 = wx)
      case first =>
        by_cases hneg : at_ < 0
        · have y1 : decide (at_ < 0) = true := decide_eq_true hneg
          have e5 : wrap64 (at_ + 1) = at_ + 1 := IntWalk.wrap64_in _ (by have := HA0.out; omega)
          have HT := Lib.hid (show -(at_ + 1) = (((-(at_ + 1)).toNat : Nat) : Int) by omega)
          have e6 : wrap64 (-(at_ + 1)) = -(at_ + 1) := IntWalk.wrap64_in _ (by have := HA0.out; clear e5; omega)
          go_wp2_with fail
          go_meet
          refine ⟨(-(at_ + 1)).toNat, ?_, by have := HA0.out; clear e5 e6; omega, rfl⟩
          rw [← HT.out, e6]
        · have y1 : decide (at_ < 0) = false := decide_eq_false hneg
          have HT := Lib.hid (show at_ = ((at_.toNat : Nat) : Int) by omega)
          go_wp2_with fail
          go_meet
          exact ⟨at_.toNat, by rw [← HT.out], by have := HA1.out; omega, rfl⟩
      case rest =>
        obtain ⟨t, rfl, ht, rfl⟩ := hcut
        obtain ⟨k, hk⟩ : ∃ k, k = t % n3 := ⟨_, rfl⟩
        have hkn : k < n3 := by rw [hk]; exact Nat.mod_lt _ (by omega)
        have e7 : (t : Int).tmod (n3 : Int) = (k : Int) := by rw [Int.tmod_eq_emod_of_nonneg (by omega), hk]; omega
        have e8 : (t : Int) % (n3 : Int) = (k : Int) := by rw [hk]; omega
        obtain ⟨g, rfl, hg1, hg2⟩ := HOB.out.row (by omega)
        have hcap := HOB.out.cap
        have hcell := OB.cellAt hlen.symm HOB.out.2.2 k (by omega)
        have hfz := OB.frozenAt hlen.symm HOB.out.2.2 k
        obtain ⟨u, hu⟩ : ∃ u, u = (putL P)[k]'(by omega) := ⟨_, rfl⟩
        rw [← hu] at hcell
        have hxor : bits .xor .u8 (u.toNat : Int) (xw.toNat : Int) = ((u ^^^ xw).toNat : Int) := by
          rw [u8_xor_nat _ _ u.toNat_lt xw.toNat_lt]
          simp
        have hst := (OB.stored hlen.symm HOB.out.2.2 k (u ^^^ xw)).1
        obtain ⟨zs, hzs⟩ : ∃ z, z = (putL P).set k (u ^^^ xw) := ⟨_, rfl⟩
        have HST := Lib.hid (show Sl (w3.setCell ⟨g, k, none⟩ (.int .u8 ((u ^^^ xw).toNat : Int))) (some ⟨g, 0, none⟩) n3 zs from by
          rw [hzs]
          exact ⟨by rw [List.length_set]; exact hlen, by omega, OB.rd (by rw [List.length_set]; exact hlen.symm) hst⟩)
        have HE4 := Lib.hid (show rdE zs = 4 by
          have hu' : u = (sumB l)[k]'(by rw [← HSL.out]; omega) := by rw [hu]; simp only [HSL.out]
          rw [hzs, HSL.out]
          exact rdE_turned (by rw [← HSL.out]; omega) (by rw [← hu']; exact xor_ne HXW.out))
        have HBS := Lib.hid (show Grow W (w3.setCell ⟨g, k, none⟩ (.int .u8 ((u ^^^ xw).toNat : Int))) from HB.out.setCell (by dsimp only; omega) _)
        clear hst hlen hu hk hzs z0 z1 z2 HB
        go_upto_region 8 with (fail)
        simp only [UInt8.toNat_xor] at HST HBS
        obtain ⟨w4, hw4⟩ : ∃ z, z = w3.setCell ⟨g, k, none⟩ (.int .u8 ((u.toNat ^^^ xw.toNat : Nat) : Int)) := ⟨_, rfl⟩
        rw [← hw4] at HST HBS ⊢
        clear hw4 hcell hfz hxor e7 e8
        go_upto_region 8 with (fail)
        have hread := w_read HST.out hcap (by omega) HST.out.blk
        obtain ⟨V5, hV5⟩ : ∃ z, z = rdV zs := ⟨_, rfl⟩
        obtain ⟨E5, hE5⟩ : ∃ z, z = rdE zs := ⟨_, rfl⟩
        rw [← hV5, ← hE5] at hread
        have HV5 := Lib.hid hV5
        have HE5 := Lib.hid hE5
        clear hV5 hE5
        refine wp_region_list ?_
        refine wpList_runTo rfl (some 58) rfl (.slice (some ⟨g, 0, none⟩) n3 c3) w4 (by first | rfl | go_simp) ?_
        refine wpList_callC rfl (some 59) rfl 14 #[.slice (some ⟨g, 0, none⟩) n3 c3] (by first | rfl | go_simp) _ hread (fun e w' h => by rcases h with ⟨nv, h, -⟩; exact ⟨_, h⟩) ?_
        rintro v wr5 ⟨nv, he, g6, os6⟩
        obtain rfl : v = .tuple #[.agg (V5.cells nv).toArray, .int .i64 E5] := by injection he
        clear he hread
        go_simp
        refine wpList_runTo rfl (some 57) rfl (.tuple #[.agg (V5.cells nv).toArray, .int .i64 E5]) wr5 (by first | rfl | go_simp) ?_
        refine wpList_runTo rfl (some 60) rfl (.agg (V5.cells nv).toArray) wr5 (by go_simp) ?_
        go_simp
        refine wpList_runTo rfl (some 61) rfl (.int .i64 E5) wr5 (by go_simp) ?_
        have hy0 := Row.new wr5 35 zP #[.int .i64 0, .int .i64 0, .int .i64 0, .int .i64 0, .int .i64 0, .int .i64 0, .int .i64 0, .string ⟨#[]⟩, .int .i64 0, .int .i64 0, .int .i64 0, .string ⟨#[]⟩, .string ⟨#[]⟩, .int .i64 0, .int .i64 0, .int .i64 0, .int .i64 0, .string ⟨#[]⟩, .int .i64 0, .int .i64 0, .int .i64 0, .int .i64 0, .string ⟨#[]⟩, .slice none 0 0, .int .i64 0, .int .i64 0, .int .i64 0, .int .i64 0, .int .i64 0, .int .i64 0, .int .i64 0, .int .i64 0, .int .i64 0, .int .i64 0, .int .i64 0, .int .i64 0, .int .i64 0, .int .i64 0, .int .i64 0, .int .i64 0, .int .i64 0, .int .i64 0, .int .i64 0] rfl
        have ga := (Grow.refl wr5).alloc (.cells #[.int .i64 0, .int .i64 0, .int .i64 0, .int .i64 0, .int .i64 0, .int .i64 0, .int .i64 0, .string ⟨#[]⟩, .int .i64 0, .int .i64 0, .int .i64 0, .string ⟨#[]⟩, .string ⟨#[]⟩, .int .i64 0, .int .i64 0, .int .i64 0, .int .i64 0, .string ⟨#[]⟩, .int .i64 0, .int .i64 0, .int .i64 0, .int .i64 0, .string ⟨#[]⟩, .slice none 0 0, .int .i64 0, .int .i64 0, .int .i64 0, .int .i64 0, .int .i64 0, .int .i64 0, .int .i64 0, .int .i64 0, .int .i64 0, .int .i64 0, .int .i64 0, .int .i64 0, .int .i64 0, .int .i64 0, .int .i64 0, .int .i64 0, .int .i64 0, .int .i64 0, .int .i64 0] 35)
        refine wpList_allocTo rfl (some 10) rfl (.pointer (some ⟨wr5.heap.size, 0, none⟩)) (.cells #[.int .i64 0, .int .i64 0, .int .i64 0, .int .i64 0, .int .i64 0, .int .i64 0, .int .i64 0, .string ⟨#[]⟩, .int .i64 0, .int .i64 0, .int .i64 0, .string ⟨#[]⟩, .string ⟨#[]⟩, .int .i64 0, .int .i64 0, .int .i64 0, .int .i64 0, .string ⟨#[]⟩, .int .i64 0, .int .i64 0, .int .i64 0, .int .i64 0, .string ⟨#[]⟩, .slice none 0 0, .int .i64 0, .int .i64 0, .int .i64 0, .int .i64 0, .int .i64 0, .int .i64 0, .int .i64 0, .int .i64 0, .int .i64 0, .int .i64 0, .int .i64 0, .int .i64 0, .int .i64 0, .int .i64 0, .int .i64 0, .int .i64 0, .int .i64 0, .int .i64 0, .int .i64 0] 35) (by kernel_rfl) ?_
        go_simp
        obtain ⟨wa5, hwa⟩ : ∃ z, z = wr5.alloc (.cells #[.int .i64 0, .int .i64 0, .int .i64 0, .int .i64 0, .int .i64 0, .int .i64 0, .int .i64 0, .string ⟨#[]⟩, .int .i64 0, .int .i64 0, .int .i64 0, .string ⟨#[]⟩, .string ⟨#[]⟩, .int .i64 0, .int .i64 0, .int .i64 0, .int .i64 0, .string ⟨#[]⟩, .int .i64 0, .int .i64 0, .int .i64 0, .int .i64 0, .string ⟨#[]⟩, .slice none 0 0, .int .i64 0, .int .i64 0, .int .i64 0, .int .i64 0, .int .i64 0, .int .i64 0, .int .i64 0, .int .i64 0, .int .i64 0, .int .i64 0, .int .i64 0, .int .i64 0, .int .i64 0, .int .i64 0, .int .i64 0, .int .i64 0, .int .i64 0, .int .i64 0, .int .i64 0] 35) := ⟨_, rfl⟩
        obtain ⟨y5, hy⟩ : ∃ z, z = wr5.heap.size := ⟨_, rfl⟩
        rw [← hwa] at hy0 ga ⊢
        rw [← hy] at hy0 ⊢
        refine wpList_storeRow rfl 35 (.tmp 10) (.tmp 60) rfl rfl y5 rfl (V5.cells nv) zP rfl hy0 rfl pk_size (PK.one _ os6.one) ?_
        intro w5 r8 t8 z8
        have G5 : Grow w4 w5 := (g6.trans ga).low (t8.low (B := w4.heap.size) (fun i e => by have := g6.size; have e' : i = y5 := e; omega) (g6.trans ga).size)
        have OS8 : OS w5 w4.heap.size nv V5.names := row_turnW (os6.keep ga) t8 (fun k e q => by have := (World.ownsRow.lt os6 k e).2; have q' : k = y5 := q; omega)
        obtain ⟨AN5, cN5, rfl, hrs⟩ := RS.of_OS OS8
        have HNB5 := Lib.hid (show ∀ z, AN5 = some z → w4.heap.size ≤ z.block ∧ z.block < y5 from fun z hz => by
          subst hz
          rw [hy]
          exact World.ownsRow.lt os6 z.block rfl)
        have HOS5 := Lib.hid OS8
        obtain ⟨k5, hk5⟩ : ∃ z, z = V5.names.length := ⟨_, rfl⟩
        rw [← hk5] at hrs r8
        have HK5 := Lib.hid hk5
        have HY5 := Lib.hid r8
        have HN5 := Lib.hid hrs
        have hyl5 : y5 < w5.heap.size := r8.1.1
        have hyw5 : w4.heap.size ≤ y5 := by rw [hy]; exact g6.size

        clear g6 ga hy0 hy hwa os6 OS8 hrs r8 t8 z8 hk5
        obtain rfl : E5 = 4 := HE5.out.trans HE4.out
        have HB5 := Lib.hid (Grow.trans HBS.out G5)
        clear G5 HY5 HN5 HOS5
        go_wp2_with fail
        refine (lives7 _).mono ?_
        rintro e w8 ⟨rfl, g8⟩
        have HB9 := Lib.hid (Grow.trans HB5.out g8)
        clear g8
        go_wp2_with fail
        go_ret
        exact ⟨rfl, HB9.out⟩
  · obtain rfl : pe = 1 := by rw [HPE.out]; exact (putE_bad (by rw [← HPE.out]; exact hp0)).1
    go_wp2_with fail
    refine (lives7 _).mono ?_
    rintro e w8 ⟨rfl, g8⟩
    have HB9 := Lib.hid (Grow.trans HB.out g8)
    clear g8
    go_wp2_with fail
    go_ret
    exact ⟨rfl, HB9.out⟩
end Go.Proofs.Ytgjcpchlijpjmaa
