/- The document's Inner at kind 5. The document's Inner. The document's reader: a number, a text; Sealed. The document's Put. No statement of the seat is proved here. -/
import Derived.Test.YtdlcpfgogjcciaaZ18
import Derived.Test.YtdlcpfgogjcciaaZ19
import Derived.Test.YtdlcpfgogjcciaaZ07
import Derived.Test.YtdlcpfgogjcciaaZ08
import Derived.Deep.RegionHeld3
namespace Go.Proofs.Ytdlcpfgogjcciaa
open Go.RowKit Go.Great

set_option maxHeartbeats 16000000 in
set_option maxRecDepth 8000 in
theorem m_inner5 {w : World} {A : Option Addr} {c : Nat} (p : PK) (hp : p.ok) (hr : RS w A p.names.length p.names) (hk : p.kind = 5) :
    Calls Try.prog 63 #[.agg (p.cells (.slice A p.names.length c)).toArray] w fun e w' => InnAns w w' e p ∧ Grow w w' := by
  obtain ⟨m, hm⟩ : ∃ m, m = p.names.length := ⟨_, rfl⟩
  have HP := Lib.hid hp
  have HM := Lib.hid hm
  have HR0 := Lib.hid hr
  have h300 : m ≤ 1048576 := by rw [hm]; exact hp.names.1
  rw [← hm] at HR0 ⊢
  clear hm hr hp
  rw [show (p.cells (.slice A m c)).toArray = #[.int .i64 p.kind, .int .i64 p.client, .int .i64 p.epoch, .int .i64 p.seq, .int .i64 p.op, .int .i64 p.at_, .int .i64 p.n, .string p.data, .int .i64 p.old, .int .i64 p.new, .int .i64 p.ckind, .string p.path, .string p.path2, .int .i64 p.flags, .int .i64 p.cfd, .int .i64 p.coff, .int .i64 p.cn, .string p.cdata, .int .i64 p.ino, .int .i64 p.errno, .int .i64 p.rerrno, .int .i64 p.rfd, .string p.rdata, .slice A m c, .int .i64 p.ikind, .int .i64 p.ilinks, .int .i64 p.isize, .int .i64 p.wrote, .int .i64 p.nkind, .int .i64 p.nlinks, .int .i64 p.nsize, .int .i64 p.b0, .int .i64 p.b1, .int .i64 p.b2, .int .i64 p.b3, .int .i64 p.o0, .int .i64 p.o1, .int .i64 p.o2, .int .i64 p.o3, .int .i64 p.o4, .int .i64 p.o5, .int .i64 p.o6, .int .i64 p.o7] from rfl]
  obtain ⟨kd, hkd⟩ : ∃ z, z = p.kind := ⟨_, rfl⟩
  have HKD := Lib.hid hkd
  have HK := Lib.hid hk
  clear hk hkd
  go_enter Try.func63, Try.ntmps63
  go_upto_region 1 with (fail)
  have hb := Blk.new w 36 (p.cells (.slice A m c)) #[.int .i64 p.kind, .int .i64 p.client, .int .i64 p.epoch, .int .i64 p.seq, .int .i64 p.op, .int .i64 p.at_, .int .i64 p.n, .string p.data, .int .i64 p.old, .int .i64 p.new, .int .i64 p.ckind, .string p.path, .string p.path2, .int .i64 p.flags, .int .i64 p.cfd, .int .i64 p.coff, .int .i64 p.cn, .string p.cdata, .int .i64 p.ino, .int .i64 p.errno, .int .i64 p.rerrno, .int .i64 p.rfd, .string p.rdata, .slice A m c, .int .i64 p.ikind, .int .i64 p.ilinks, .int .i64 p.isize, .int .i64 p.wrote, .int .i64 p.nkind, .int .i64 p.nlinks, .int .i64 p.nsize, .int .i64 p.b0, .int .i64 p.b1, .int .i64 p.b2, .int .i64 p.b3, .int .i64 p.o0, .int .i64 p.o1, .int .i64 p.o2, .int .i64 p.o3, .int .i64 p.o4, .int .i64 p.o5, .int .i64 p.o6, .int .i64 p.o7] (0, 0) rfl
  have ga := (Grow.refl w).alloc (.cells #[.int .i64 p.kind, .int .i64 p.client, .int .i64 p.epoch, .int .i64 p.seq, .int .i64 p.op, .int .i64 p.at_, .int .i64 p.n, .string p.data, .int .i64 p.old, .int .i64 p.new, .int .i64 p.ckind, .string p.path, .string p.path2, .int .i64 p.flags, .int .i64 p.cfd, .int .i64 p.coff, .int .i64 p.cn, .string p.cdata, .int .i64 p.ino, .int .i64 p.errno, .int .i64 p.rerrno, .int .i64 p.rfd, .string p.rdata, .slice A m c, .int .i64 p.ikind, .int .i64 p.ilinks, .int .i64 p.isize, .int .i64 p.wrote, .int .i64 p.nkind, .int .i64 p.nlinks, .int .i64 p.nsize, .int .i64 p.b0, .int .i64 p.b1, .int .i64 p.b2, .int .i64 p.b3, .int .i64 p.o0, .int .i64 p.o1, .int .i64 p.o2, .int .i64 p.o3, .int .i64 p.o4, .int .i64 p.o5, .int .i64 p.o6, .int .i64 p.o7] 36)
  obtain ⟨w1, hw1⟩ : ∃ z, z = w.alloc (.cells #[.int .i64 p.kind, .int .i64 p.client, .int .i64 p.epoch, .int .i64 p.seq, .int .i64 p.op, .int .i64 p.at_, .int .i64 p.n, .string p.data, .int .i64 p.old, .int .i64 p.new, .int .i64 p.ckind, .string p.path, .string p.path2, .int .i64 p.flags, .int .i64 p.cfd, .int .i64 p.coff, .int .i64 p.cn, .string p.cdata, .int .i64 p.ino, .int .i64 p.errno, .int .i64 p.rerrno, .int .i64 p.rfd, .string p.rdata, .slice A m c, .int .i64 p.ikind, .int .i64 p.ilinks, .int .i64 p.isize, .int .i64 p.wrote, .int .i64 p.nkind, .int .i64 p.nlinks, .int .i64 p.nsize, .int .i64 p.b0, .int .i64 p.b1, .int .i64 p.b2, .int .i64 p.b3, .int .i64 p.o0, .int .i64 p.o1, .int .i64 p.o2, .int .i64 p.o3, .int .i64 p.o4, .int .i64 p.o5, .int .i64 p.o6, .int .i64 p.o7] 36) := ⟨_, rfl⟩
  obtain ⟨x, hx⟩ : ∃ z, z = w.heap.size := ⟨_, rfl⟩
  rw [← hw1] at hb ga ⊢
  rw [← hx] at hb ⊢
  obtain ⟨P0, hP0⟩ : ∃ z, z = Value.agg #[.int .i64 p.kind, .int .i64 p.client, .int .i64 p.epoch, .int .i64 p.seq, .int .i64 p.op, .int .i64 p.at_, .int .i64 p.n, .string p.data, .int .i64 p.old, .int .i64 p.new, .int .i64 p.ckind, .string p.path, .string p.path2, .int .i64 p.flags, .int .i64 p.cfd, .int .i64 p.coff, .int .i64 p.cn, .string p.cdata, .int .i64 p.ino, .int .i64 p.errno, .int .i64 p.rerrno, .int .i64 p.rfd, .string p.rdata, .slice A m c, .int .i64 p.ikind, .int .i64 p.ilinks, .int .i64 p.isize, .int .i64 p.wrote, .int .i64 p.nkind, .int .i64 p.nlinks, .int .i64 p.nsize, .int .i64 p.b0, .int .i64 p.b1, .int .i64 p.b2, .int .i64 p.b3, .int .i64 p.o0, .int .i64 p.o1, .int .i64 p.o2, .int .i64 p.o3, .int .i64 p.o4, .int .i64 p.o5, .int .i64 p.o6, .int .i64 p.o7] := ⟨_, rfl⟩
  rw [← hP0]
  have BX1 := Lib.hid hb
  have HG1 := Lib.hid ga
  have HX := Lib.hid hx
  have HR1 := Lib.hid (HR0.out.grow ga)
  clear hw1 hb ga hx hP0
  go_upto_region 2 with (fail)
  have hrow := Row.new w1 142 [.slice none 0 0, .bool false] _ rfl
  have ga := (Grow.refl w1).alloc (.cells #[.slice none 0 0, .bool false] 142)
  have hsz : (w1.alloc (.cells #[.slice none 0 0, .bool false] 142)).heap.size = w1.heap.size + 1 := by simp
  obtain ⟨w2, hw2⟩ : ∃ z, z = w1.alloc (.cells #[.slice none 0 0, .bool false] 142) := ⟨_, rfl⟩
  obtain ⟨g, hg⟩ : ∃ z, z = w1.heap.size := ⟨_, rfl⟩
  rw [← hw2] at hrow ga hsz ⊢
  rw [← hg] at hrow hsz ⊢
  obtain ⟨base, hbs⟩ : ∃ z, z = w2.heap.size := ⟨_, rfl⟩
  have hxl := BX1.out.1
  have hxg : ¬ x = g := by omega
  have hgb : g < base := by omega
  have hxb : x < base := by omega
  have hwb : w.heap.size ≤ g := by have := HX.out; omega
  have HW0 := Lib.hid (show RW w2 g base (.slice none 0 0) (some []) 0 from ⟨hrow, hgb, none, 0, 0, [], rfl, Own.nil _ _, Nat.le_refl _, fun l hl => by injection hl with hl; exact hl.symm⟩)
  have BX0 := Lib.hid (BX1.out.keep ga)
  have HG2 := Lib.hid (HG1.out.trans ga)
  have HT0 := Lib.hid (Turn.refl (VF g base) w2)
  have HR2 := Lib.hid (HR1.out.grow ga)
  have hb0 : base ≤ w2.heap.size := by omega
  have HVF := Lib.hid (show ¬ VF g base x from VF.off hxg hxb)
  have hlx := BX0.out.1
  clear hw2 hrow ga hg hsz hbs HR1 HG1 BX1
  have c0 : w2.cell? ⟨x, 0, none⟩ = some (.int .i64 5) := by rw [← HK.out]; exact BX0.out.2 0 _ rfl
  go_wp2_with fail
  refine (rw_num HW0.out hb0 (5 : Int) ⟨by decide, by decide⟩ 1 1 rfl (by decide) 1 5 (by have := HP.out.data; have := HP.out.path; have := HP.out.path2; omega)).mono ?_
  rintro e v1 ⟨rfl, bv1, h2, t2⟩
  have HW1 := Lib.hid (show RW v1 g base bv1 (pN (some []) 5 1) (0 + 8) by rw [← (show gd (decide ((1 : Int) ≤ 5 ∧ (5 : Int) ≤ 5)) (pN (some []) 5 1) = (pN (some []) 5 1) from rfl)]; exact h2)
  have HT1 := Lib.hid (HT0.out.and t2)
  have BX1 := Lib.hid (BX0.out.turnW t2 HVF.out)
  have hb1 : base ≤ v1.heap.size := Nat.le_trans hb0 t2.size
  replace hlx := BX1.out.1
  clear h2 t2 c0 BX0 HW0 HT0 hb0
  have c0 : v1.cell? ⟨x, 0, none⟩ = some (.int .i64 5) := by rw [← HK.out]; exact BX1.out.2 0 _ rfl
  have c1 := BX1.out.2 1 _ rfl
  go_wp2_with fail
  refine (rw_num HW1.out hb1 p.client HP.out.client 1 1 rfl (by decide) 1 8 (by have := HP.out.data; have := HP.out.path; have := HP.out.path2; omega)).mono ?_
  rintro e v2 ⟨rfl, bv2, h2, t2⟩
  have HW2 := Lib.hid (show RW v2 g base bv2 (pN (pN (gd (cliB p.client) (some [])) 5 1) p.client 1) ((0 + 8) + 8) by rw [← (show gd (decide ((1 : Int) ≤ p.client ∧ p.client ≤ 8)) (pN (pN (some []) 5 1) p.client 1) = (pN (pN (gd (cliB p.client) (some [])) 5 1) p.client 1) from by rw [gd_pN, gd_pN]; rfl)]; exact h2)
  have HT2 := Lib.hid (HT1.out.and t2)
  have BX2 := Lib.hid (BX1.out.turnW t2 HVF.out)
  have hb2 : base ≤ v2.heap.size := Nat.le_trans hb1 t2.size
  replace hlx := BX2.out.1
  clear h2 t2 c0 c1 BX1 HW1 HT1 hb1
  have c0 : v2.cell? ⟨x, 0, none⟩ = some (.int .i64 5) := by rw [← HK.out]; exact BX2.out.2 0 _ rfl
  have c2 := BX2.out.2 2 _ rfl
  go_wp2_with fail
  refine (rw_num HW2.out hb2 p.epoch HP.out.epoch 4 4 rfl (by decide) 0 9223372036854775807 (by have := HP.out.data; have := HP.out.path; have := HP.out.path2; omega)).mono ?_
  rintro e v3 ⟨rfl, bv3, h2, t2⟩
  have HW3 := Lib.hid (show RW v3 g base bv3 (pN (pN (pN (gd (cliB p.client) (some [])) 5 1) p.client 1) p.epoch 4) (((0 + 8) + 8) + 8) by rw [← (show gd (decide ((0 : Int) ≤ p.epoch ∧ p.epoch ≤ 9223372036854775807)) (pN (pN (pN (gd (cliB p.client) (some [])) 5 1) p.client 1) p.epoch 4) = (pN (pN (pN (gd (cliB p.client) (some [])) 5 1) p.client 1) p.epoch 4) from gd_all HP.out.epoch _ _)]; exact h2)
  have HT3 := Lib.hid (HT2.out.and t2)
  have BX3 := Lib.hid (BX2.out.turnW t2 HVF.out)
  have hb3 : base ≤ v3.heap.size := Nat.le_trans hb2 t2.size
  replace hlx := BX3.out.1
  clear h2 t2 c0 c2 BX2 HW2 HT2 hb2
  have c0 : v3.cell? ⟨x, 0, none⟩ = some (.int .i64 5) := by rw [← HK.out]; exact BX3.out.2 0 _ rfl
  have c3 := BX3.out.2 3 _ rfl
  go_wp2_with fail
  refine (rw_num HW3.out hb3 p.seq HP.out.seq 8 8 rfl (by decide) 0 9223372036854775807 (by have := HP.out.data; have := HP.out.path; have := HP.out.path2; omega)).mono ?_
  rintro e v4 ⟨rfl, bv4, h2, t2⟩
  have HW4 := Lib.hid (show RW v4 g base bv4 (pN (pN (pN (pN (gd (cliB p.client) (some [])) 5 1) p.client 1) p.epoch 4) p.seq 8) ((((0 + 8) + 8) + 8) + 8) by rw [← (show gd (decide ((0 : Int) ≤ p.seq ∧ p.seq ≤ 9223372036854775807)) (pN (pN (pN (pN (gd (cliB p.client) (some [])) 5 1) p.client 1) p.epoch 4) p.seq 8) = (pN (pN (pN (pN (gd (cliB p.client) (some [])) 5 1) p.client 1) p.epoch 4) p.seq 8) from gd_all HP.out.seq _ _)]; exact h2)
  have HT4 := Lib.hid (HT3.out.and t2)
  have BX4 := Lib.hid (BX3.out.turnW t2 HVF.out)
  have hb4 : base ≤ v4.heap.size := Nat.le_trans hb3 t2.size
  replace hlx := BX4.out.1
  clear h2 t2 c0 c3 BX3 HW3 HT3 hb3
  replace HW4 := Lib.hid (show RW v4 g base bv4 (headP p) 32 by have := HW4.out; rw [← HK.out] at this; exact this)
  have c0 : v4.cell? ⟨x, 0, none⟩ = some (.int .i64 5) := by rw [← HK.out]; exact BX4.out.2 0 _ rfl
  have c18 := BX4.out.2 18 _ rfl
  go_wp2_with fail
  refine (rw_num HW4.out hb4 p.ino HP.out.ino 1 1 rfl (by decide) 0 9223372036854775807 (by have := HP.out.data; have := HP.out.path; have := HP.out.path2; omega)).mono ?_
  rintro e v5 ⟨rfl, bv5, h2, t2⟩
  have HW5 := Lib.hid (show RW v5 g base bv5 (pN (headP p) p.ino 1) (32 + 8) by rw [← (show gd (decide ((0 : Int) ≤ p.ino ∧ p.ino ≤ 9223372036854775807)) (pN (headP p) p.ino 1) = (pN (headP p) p.ino 1) from gd_all HP.out.ino _ _)]; exact h2)
  have HT5 := Lib.hid (HT4.out.and t2)
  have BX5 := Lib.hid (BX4.out.turnW t2 HVF.out)
  have hb5 : base ≤ v5.heap.size := Nat.le_trans hb4 t2.size
  replace hlx := BX5.out.1
  clear h2 t2 c0 c18 BX4 HW4 HT4 hb4
  have c0 : v5.cell? ⟨x, 0, none⟩ = some (.int .i64 5) := by rw [← HK.out]; exact BX5.out.2 0 _ rfl
  have HIN := Lib.hid (show (pN (headP p) p.ino 1) = innerP p from ((kind5 HK.out).1).symm)
  obtain ⟨oE, hoE⟩ : ∃ z, z = (pN (headP p) p.ino 1) := ⟨_, rfl⟩
  rw [← hoE] at HW5 HIN
  clear hoE
  have HRZ := HR2.out.turnW HT5.out (fun hn q hq => VF.off (HR0.out.ne hwb hn q hq) (by obtain ⟨b, o, e, hb, -⟩ := HR0.out.2.2 hn; rw [e] at hq; injection hq with hq; subst hq; show b < base; omega))
  rw [HM.out] at HRZ
  have hcall := m_others (c := c) p HRZ (by rw [← HM.out]; exact h300)
  rw [← HM.out] at hcall
  clear HRZ
  go_upto_region 46 with (fail)
  refine wp_region_list ?_
  refine wpList_loadRow rfl 36 (.tmp 1) rfl (some 195) rfl x rfl (p.cells (.slice A m c)) _ BX5.out Try.underlying36 rfl pk_size ?_
  go_simp
  refine wpList_callC rfl (some 196) rfl 91 #[.agg (p.cells (.slice A m c)).toArray] (by first | rfl | go_simp) _ hcall (fun e w' h => ⟨_, h.1⟩) ?_
  rintro v w9 ⟨he, g9⟩
  obtain ⟨bb, hbb⟩ : ∃ z, z = decide (p = normP p) := ⟨_, rfl⟩
  rw [← hbb] at he
  obtain rfl : v = .bool bb := by injection he
  have HAN := Lib.hid (inn_bool HIN.out hbb)
  have HW9 := Lib.hid (HW5.out.keep g9)
  have HG9 := Lib.hid (show Grow w w9 from HG2.out.low ((HT5.out.low (B := w.heap.size) (fun i e => by rcases e with e | e <;> omega) HG2.out.size).trans (Below.mono g9 (by have := HT5.out.size; have := HG2.out.size; omega))))
  clear he hbb g9 hcall c0 HW5 HT5 BX5
  obtain ⟨A9, n9, c9, bs9, hbv, hown9, hn9, hl9⟩ := HW9.out.row
  subst hbv
  obtain ⟨d0, d1⟩ := HW9.out.blk.1.c2
  obtain ⟨fl, hfl⟩ : ∃ z, z = oE.isNone := ⟨_, rfl⟩
  rw [← hfl] at d1 HAN
  have HO9 := Lib.hid (show Own w9 w.heap.size A9 n9 c9 bs9 from hown9.low (by omega))
  have HL9 := Lib.hid (show ∀ l, innerP p = some l → l = bs9 from fun l hl => hl9 l (HIN.out.trans hl))
  have HN9 := Lib.hid (show n9 ≤ 4000000000000 by have := HP.out.data; have := HP.out.path; have := HP.out.path2; omega)
  clear hfl hown9 hn9 hl9
  cases fl with
  | true =>
    go_wp2_with fail
    go_quiet (fail)
    go_wp2_with fail
    go_ret2
    have hgq : Grow w9 (w9.drewN nq) := (Grow.refl _).drewN _
    exact ⟨⟨A9, n9, c9, bs9, by rw [HAN.out]; rfl, ⟨HO9.out.1, HO9.out.2.1, row_turnW HO9.out.2.2 (Turn.grow hgq (fun _ => False)) (fun _ _ q => q)⟩, HN9.out, HL9.out⟩, HG9.out.trans hgq⟩
  | false =>
    go_wp2_with fail
    go_quiet (fail)
    go_wp2_with fail
    go_ret2
    have hgq : Grow w9 (w9.drewN nq) := (Grow.refl _).drewN _
    exact ⟨⟨A9, n9, c9, bs9, by rw [HAN.out]; rfl, ⟨HO9.out.1, HO9.out.2.1, row_turnW HO9.out.2.2 (Turn.grow hgq (fun _ => False)) (fun _ _ q => q)⟩, HN9.out, HL9.out⟩, HG9.out.trans hgq⟩
end Go.Proofs.Ytdlcpfgogjcciaa

namespace Go.Proofs.Ytdlcpfgogjcciaa
open Go.RowKit

theorem m_inner {w : World} {A : Option Addr} {c : Nat} (p : PK) (hp : p.ok) (hr : RS w A p.names.length p.names) :
    Calls Try.prog 63 #[.agg (p.cells (.slice A p.names.length c)).toArray] w fun e w' => InnAns w w' e p ∧ Grow w w' := by
  by_cases k : 1 ≤ p.kind ∧ p.kind ≤ 5
  · have h : p.kind = 1 ∨ p.kind = 2 ∨ p.kind = 3 ∨ p.kind = 4 ∨ p.kind = 5 := by omega
    rcases h with h | h | h | h | h
    · exact m_inner1 p hp hr h
    · exact m_inner2 p hp hr h
    · exact m_inner3 p hp hr h
    · exact m_inner4 p hp hr h
    · exact m_inner5 p hp hr h
  · exact m_inner0 p hp hr k
end Go.Proofs.Ytdlcpfgogjcciaa

namespace Go.Proofs.Ytdlcpfgogjcciaa
open Go.RowKit Go.Great

theorem getO_drop {bs : List UInt8} {a : Nat} (h : a ≤ bs.length) (wd : Int) : getO bs (a : Int) wd = getO (bs.drop a) 0 wd := by
  unfold getO
  have e1 : ((isW wd = true ∧ 0 ≤ (a : Int) ∧ (a : Int) + wd ≤ (bs.length : Int)) ↔ (isW wd = true ∧ (0 : Int) ≤ 0 ∧ 0 + wd ≤ ((bs.drop a).length : Int))) := by
    rw [List.length_drop]
    constructor
    · rintro ⟨h1, h2, h3⟩; exact ⟨h1, by omega, by omega⟩
    · rintro ⟨h1, h2, h3⟩; exact ⟨h1, by omega, by omega⟩
  simp only [e1, Int.toNat_natCast, Int.toNat_zero, List.drop_zero]
theorem getN_drop {bs : List UInt8} {a : Nat} (h : a ≤ bs.length) (wd : Int) : getN bs (a : Int) wd = getN (bs.drop a) 0 wd := by unfold getN; rw [getO_drop h]
theorem getK_drop {bs : List UInt8} {a : Nat} (h : a ≤ bs.length) (wd : Int) : getK bs (a : Int) wd = getK (bs.drop a) 0 wd := by unfold getK; rw [getO_drop h]

/-- What is left of the bytes, or none. -/
def mrO (bs : List UInt8) (a : Nat) (no : Bool) : OBs := if no = true then none else some (bs.drop a)
/-- The document's reader at g. -/
structure MR (w : World) (g B : Nat) (A : Option Addr) (n c : Nat) (bs : List UInt8) (a : Nat) (no : Bool) : Prop where
  blk : Row w g [.slice A n c, .int .i64 (a : Int), .bool no]
  sl : Sl w A n bs
  cap : n ≤ c
  le : a ≤ n
  few : n ≤ 100000
  low : B ≤ g
  off : 0 < n → ∀ p, A = some p → p.block < B
theorem MR.keep {w w' : World} {g B n c a : Nat} {A : Option Addr} {bs : List UInt8} {no : Bool} (h : MR w g B A n c bs a no) (k : Grow w w') : MR w' g B A n c bs a no :=
  ⟨h.blk.keep k, h.sl.keep k, h.cap, h.le, h.few, h.low, h.off⟩
theorem MR.turn {w w' : World} {F : Nat → Prop} {g B n c a : Nat} {A : Option Addr} {bs : List UInt8} {no : Bool} (h : MR w g B A n c bs a no) (t : Turn F w w') (hg : ¬ F g) (hB : ∀ k, F k → B ≤ k) : MR w' g B A n c bs a no :=
  ⟨h.blk.turnW t hg, h.sl.turnW t (fun h0 p hp k => by have := h.off h0 p hp; have := hB _ k; omega), h.cap, h.le, h.few, h.low, h.off⟩
theorem MR.odd {w : World} {g B n c a : Nat} {A : Option Addr} {bs : List UInt8} {no : Bool} (h : MR w g B A n c bs a no) : MR (w.setCell ⟨g, 2, none⟩ (.bool true)) g B A n c bs a true ∧ Turn (fun k => k = g) w (w.setCell ⟨g, 2, none⟩ (.bool true)) := by
  have t5 : Turn (fun k => k = g) w (w.setCell ⟨g, 2, none⟩ (.bool true)) := Turn.setCell (F := fun k => k = g) w (p := ⟨g, 2, none⟩) rfl _
  exact ⟨⟨h.blk.set (j := 2) (v := .bool true) (by simp), h.sl.turnW t5 (fun h0 p hp e => by have := h.off h0 p hp; have := h.low; have e' : p.block = g := e; omega), h.cap, h.le, h.few, h.low, h.off⟩, t5⟩
theorem MR.step {w : World} {g B n c a : Nat} {A : Option Addr} {bs : List UInt8} {no : Bool} (h : MR w g B A n c bs a no) {b : Nat} (hb : b ≤ n) : MR (w.setCell ⟨g, 1, none⟩ (.int .i64 (b : Int))) g B A n c bs b no ∧ Turn (fun k => k = g) w (w.setCell ⟨g, 1, none⟩ (.int .i64 (b : Int))) := by
  have t5 : Turn (fun k => k = g) w (w.setCell ⟨g, 1, none⟩ (.int .i64 (b : Int))) := Turn.setCell (F := fun k => k = g) w (p := ⟨g, 1, none⟩) rfl _
  exact ⟨⟨h.blk.set (j := 1) (v := .int .i64 (b : Int)) (by simp), h.sl.turnW t5 (fun h0 p hp e => by have := h.off h0 p hp; have := h.low; have e' : p.block = g := e; omega), h.cap, hb, h.few, h.low, h.off⟩, t5⟩
/-- Bytes and their sum behind. -/
theorem m_sealed {w : World} {A : Option Addr} {n c : Nat} {bs : List UInt8} (hs : Sl w A n bs) (hn : n ≤ 4000000000000) :
    Calls Try.prog 64 #[.slice A n c] w fun e w' => ∃ A' c', e = .returned (.slice A' (n + 4) c') ∧ Own w' w.heap.size A' (n + 4) c' (sumB bs) ∧ Grow w w' := by
  have HS := Lib.hid hs
  clear hs
  go_enter Try.func64, Try.ntmps64
  go_wp2_with fail
  refine (rsum_s HS.out).mono ?_
  rintro e w1 ⟨q, rfl, hq, hq4, rfl⟩
  have HF := Lib.hid (show fitsB (q : Int) 4 = true by rw [hq.out]; exact fits_crc _)
  go_wp2_with fail
  refine (rput_s (n + 4) HS.out HF.out (by omega) rfl (by omega)).mono ?_
  rintro e w2 ⟨A', c', rfl, hown, g2⟩
  have HO := Lib.hid hown
  clear hown
  go_wp2_with fail
  go_ret
  refine ⟨A', c', rfl, ?_, g2⟩
  have := HO.out
  rw [hq.out] at this
  exact this
end Go.Proofs.Ytdlcpfgogjcciaa

namespace Go.Proofs.Ytdlcpfgogjcciaa
open Go.RowKit Go.Great

theorem m_innerC {w : World} {A : Option Addr} {c m : Nat} (p : PK) (hp : p.ok) (hm : m = p.names.length) (hr : RS w A m p.names) :
    Calls Try.prog 63 #[.agg (p.cells (.slice A m c)).toArray] w fun e w' => ∃ v b, e = .returned (.tuple #[v, .bool b]) ∧ Hid (b = decide ((innerP p).isSome = true ∧ normP p = p)) ∧ (∃ A n c bs, v = .slice A n c ∧ Own w' w.heap.size A n c bs ∧ n ≤ 4000000000000 ∧ ∀ l, innerP p = some l → l = bs) ∧ Grow w w' := by
  subst hm
  refine (m_inner p hp hr).mono ?_
  rintro e w' ⟨⟨A', n, c', bs, rfl, h1, h2, h3⟩, g⟩
  exact ⟨_, _, rfl, Lib.hid rfl, ⟨A', n, c', bs, rfl, h1, h2, h3⟩, g⟩

set_option maxHeartbeats 8000000 in
set_option maxRecDepth 8000 in
theorem m_put {w : World} {A : Option Addr} {c : Nat} (p : PK) (hp : p.ok) (hr : RS w A p.names.length p.names) :
    Calls Try.prog 35 #[.agg (p.cells (.slice A p.names.length c)).toArray] w fun e w' => PutAns w w' e (putP p) ∧ Grow w w' := by
  obtain ⟨m, hm⟩ : ∃ m, m = p.names.length := ⟨_, rfl⟩
  have HP := Lib.hid hp
  have HM := Lib.hid hm
  have HR0 := Lib.hid hr
  rw [← hm] at HR0 ⊢
  clear hm hp hr
  rw [show (p.cells (.slice A m c)).toArray = #[.int .i64 p.kind, .int .i64 p.client, .int .i64 p.epoch, .int .i64 p.seq, .int .i64 p.op, .int .i64 p.at_, .int .i64 p.n, .string p.data, .int .i64 p.old, .int .i64 p.new, .int .i64 p.ckind, .string p.path, .string p.path2, .int .i64 p.flags, .int .i64 p.cfd, .int .i64 p.coff, .int .i64 p.cn, .string p.cdata, .int .i64 p.ino, .int .i64 p.errno, .int .i64 p.rerrno, .int .i64 p.rfd, .string p.rdata, .slice A m c, .int .i64 p.ikind, .int .i64 p.ilinks, .int .i64 p.isize, .int .i64 p.wrote, .int .i64 p.nkind, .int .i64 p.nlinks, .int .i64 p.nsize, .int .i64 p.b0, .int .i64 p.b1, .int .i64 p.b2, .int .i64 p.b3, .int .i64 p.o0, .int .i64 p.o1, .int .i64 p.o2, .int .i64 p.o3, .int .i64 p.o4, .int .i64 p.o5, .int .i64 p.o6, .int .i64 p.o7] from rfl]
  go_enter Try.func35, Try.ntmps35
  go_upto_region 1 with (fail)
  have hb := Blk.new w 36 (p.cells (.slice A m c)) #[.int .i64 p.kind, .int .i64 p.client, .int .i64 p.epoch, .int .i64 p.seq, .int .i64 p.op, .int .i64 p.at_, .int .i64 p.n, .string p.data, .int .i64 p.old, .int .i64 p.new, .int .i64 p.ckind, .string p.path, .string p.path2, .int .i64 p.flags, .int .i64 p.cfd, .int .i64 p.coff, .int .i64 p.cn, .string p.cdata, .int .i64 p.ino, .int .i64 p.errno, .int .i64 p.rerrno, .int .i64 p.rfd, .string p.rdata, .slice A m c, .int .i64 p.ikind, .int .i64 p.ilinks, .int .i64 p.isize, .int .i64 p.wrote, .int .i64 p.nkind, .int .i64 p.nlinks, .int .i64 p.nsize, .int .i64 p.b0, .int .i64 p.b1, .int .i64 p.b2, .int .i64 p.b3, .int .i64 p.o0, .int .i64 p.o1, .int .i64 p.o2, .int .i64 p.o3, .int .i64 p.o4, .int .i64 p.o5, .int .i64 p.o6, .int .i64 p.o7] (0, 0) rfl
  have ga := (Grow.refl w).alloc (.cells #[.int .i64 p.kind, .int .i64 p.client, .int .i64 p.epoch, .int .i64 p.seq, .int .i64 p.op, .int .i64 p.at_, .int .i64 p.n, .string p.data, .int .i64 p.old, .int .i64 p.new, .int .i64 p.ckind, .string p.path, .string p.path2, .int .i64 p.flags, .int .i64 p.cfd, .int .i64 p.coff, .int .i64 p.cn, .string p.cdata, .int .i64 p.ino, .int .i64 p.errno, .int .i64 p.rerrno, .int .i64 p.rfd, .string p.rdata, .slice A m c, .int .i64 p.ikind, .int .i64 p.ilinks, .int .i64 p.isize, .int .i64 p.wrote, .int .i64 p.nkind, .int .i64 p.nlinks, .int .i64 p.nsize, .int .i64 p.b0, .int .i64 p.b1, .int .i64 p.b2, .int .i64 p.b3, .int .i64 p.o0, .int .i64 p.o1, .int .i64 p.o2, .int .i64 p.o3, .int .i64 p.o4, .int .i64 p.o5, .int .i64 p.o6, .int .i64 p.o7] 36)
  obtain ⟨w1, hw1⟩ : ∃ z, z = w.alloc (.cells #[.int .i64 p.kind, .int .i64 p.client, .int .i64 p.epoch, .int .i64 p.seq, .int .i64 p.op, .int .i64 p.at_, .int .i64 p.n, .string p.data, .int .i64 p.old, .int .i64 p.new, .int .i64 p.ckind, .string p.path, .string p.path2, .int .i64 p.flags, .int .i64 p.cfd, .int .i64 p.coff, .int .i64 p.cn, .string p.cdata, .int .i64 p.ino, .int .i64 p.errno, .int .i64 p.rerrno, .int .i64 p.rfd, .string p.rdata, .slice A m c, .int .i64 p.ikind, .int .i64 p.ilinks, .int .i64 p.isize, .int .i64 p.wrote, .int .i64 p.nkind, .int .i64 p.nlinks, .int .i64 p.nsize, .int .i64 p.b0, .int .i64 p.b1, .int .i64 p.b2, .int .i64 p.b3, .int .i64 p.o0, .int .i64 p.o1, .int .i64 p.o2, .int .i64 p.o3, .int .i64 p.o4, .int .i64 p.o5, .int .i64 p.o6, .int .i64 p.o7] 36) := ⟨_, rfl⟩
  obtain ⟨x, hx⟩ : ∃ z, z = w.heap.size := ⟨_, rfl⟩
  rw [← hw1] at hb ga ⊢
  rw [← hx] at hb ⊢
  obtain ⟨P0, hP0⟩ : ∃ z, z = Value.agg #[.int .i64 p.kind, .int .i64 p.client, .int .i64 p.epoch, .int .i64 p.seq, .int .i64 p.op, .int .i64 p.at_, .int .i64 p.n, .string p.data, .int .i64 p.old, .int .i64 p.new, .int .i64 p.ckind, .string p.path, .string p.path2, .int .i64 p.flags, .int .i64 p.cfd, .int .i64 p.coff, .int .i64 p.cn, .string p.cdata, .int .i64 p.ino, .int .i64 p.errno, .int .i64 p.rerrno, .int .i64 p.rfd, .string p.rdata, .slice A m c, .int .i64 p.ikind, .int .i64 p.ilinks, .int .i64 p.isize, .int .i64 p.wrote, .int .i64 p.nkind, .int .i64 p.nlinks, .int .i64 p.nsize, .int .i64 p.b0, .int .i64 p.b1, .int .i64 p.b2, .int .i64 p.b3, .int .i64 p.o0, .int .i64 p.o1, .int .i64 p.o2, .int .i64 p.o3, .int .i64 p.o4, .int .i64 p.o5, .int .i64 p.o6, .int .i64 p.o7] := ⟨_, rfl⟩
  rw [← hP0]
  have BX1 := Lib.hid hb
  have HG1 := Lib.hid ga
  have hcall := m_innerC (c := c) p HP.out HM.out (HR0.out.grow ga)
  have HWX := Lib.hid (show w.heap.size ≤ w1.heap.size from ga.size)
  clear hw1 hb ga hx hP0
  refine wp_region_list ?_
  refine wpList_loadRow rfl 36 (.tmp 1) rfl (some 7) rfl x rfl (p.cells (.slice A m c)) _ BX1.out Try.underlying36 rfl pk_size ?_
  go_simp
  refine wpList_callC rfl (some 8) rfl 63 #[.agg (p.cells (.slice A m c)).toArray] (by first | rfl | go_simp) _ hcall (fun e w' h => by obtain ⟨v, b, h, -⟩ := h; exact ⟨_, h⟩) ?_
  rintro v w2 ⟨v2, b2, he, hb2, ⟨A2, n2, c2, bs2, rfl, ho2, hn2, hl2⟩, g2⟩
  obtain rfl : v = .tuple #[.slice A2 n2 c2, .bool b2] := by injection he
  have HO2 := Lib.hid ho2
  have HL2 := Lib.hid hl2
  have HG2 := Lib.hid (HG1.out.trans g2)
  have HN2 := Lib.hid hn2
  clear he ho2 hl2 g2 hcall hn2
  go_simp
  refine wpList_runTo rfl (some 6) rfl (.tuple #[.slice A2 n2 c2, .bool b2]) w2 (by first | rfl | go_simp) ?_
  refine wpList_runTo rfl (some 9) rfl (.slice A2 n2 c2) w2 (by go_simp) ?_
  refine wpList_runTo rfl (some 10) rfl (.bool b2) w2 (by go_simp) ?_
  go_simp
  cases b2 with
  | false =>
    have HN := Lib.hid (show putP p = none by
      have h := hb2.out.symm
      rw [decide_eq_false_iff_not] at h
      unfold putP
      cases hi : innerP p with
      | none => rfl
      | some l =>
        show (if normP p = p then some (sumB l) else none) = none
        rw [if_neg (fun e => h ⟨by rw [hi]; rfl, e⟩)])
    clear hb2
    go_wp2_with fail
    go_ret2
    rw [HN.out]
    exact ⟨rfl, HG2.out⟩
  | true =>
    have HQ := Lib.hid (show ∃ l, innerP p = some l ∧ normP p = p by
      have h := hb2.out.symm
      rw [decide_eq_true_iff] at h
      obtain ⟨l, hl⟩ := Option.isSome_iff_exists.1 h.1
      exact ⟨l, hl, h.2⟩)
    clear hb2
    go_wp2_with fail
    refine (m_sealed HO2.out.sl HN2.out).mono ?_
    rintro e w3 ⟨A3, c3, rfl, ho3, g3⟩
    have HO3 := Lib.hid ho3
    have HG3 := Lib.hid (HG2.out.trans g3)
    have HW3 := Lib.hid (show w.heap.size ≤ w2.heap.size by have := HG2.out.size; omega)
    clear ho3 g3
    go_wp2_with fail
    go_ret2
    obtain ⟨l, h1, h2⟩ := HQ.out
    rw [putP_some h1 h2]
    have := HL2.out l h1
    subst this
    exact ⟨⟨A3, n2 + 4, c3, rfl, HO3.out.low HW3.out⟩, HG3.out⟩
end Go.Proofs.Ytdlcpfgogjcciaa
