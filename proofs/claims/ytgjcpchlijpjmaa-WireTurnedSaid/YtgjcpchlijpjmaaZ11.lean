/- The document's Inner at kind 0. The document's Inner at kind 1. The document's Inner at kind 2. The document's Inner at kind 3. No statement of the seat is proved here. -/
import Derived.Test.YtgjcpchlijpjmaaZ10
namespace Go.Proofs.Ytgjcpchlijpjmaa
open Go.RowKit Go.Great

set_option maxHeartbeats 16000000 in
set_option maxRecDepth 8000 in
theorem m_inner0 {w : World} {A : Option Addr} {c : Nat} (p : PK) (hp : p.ok) (hr : RS w A p.names.length p.names) (hk : ¬ (1 ≤ p.kind ∧ p.kind ≤ 5)) :
    Calls Try.prog 27 #[.agg (p.cells (.slice A p.names.length c)).toArray] w fun e w' => InnAns w w' e p ∧ Grow w w' := by
  obtain ⟨m, hm⟩ : ∃ m, m = p.names.length := ⟨_, rfl⟩
  have HP := Lib.hid hp
  have HM := Lib.hid hm
  have HR0 := Lib.hid hr
  have h300 : m ≤ 300 := by rw [hm]; exact hp.names.1
  rw [← hm] at HR0 ⊢
  clear hm hr hp
  rw [show (p.cells (.slice A m c)).toArray = #[.int .i64 p.kind, .int .i64 p.client, .int .i64 p.epoch, .int .i64 p.seq, .int .i64 p.op, .int .i64 p.at_, .int .i64 p.n, .string p.data, .int .i64 p.old, .int .i64 p.new, .int .i64 p.ckind, .string p.path, .string p.path2, .int .i64 p.flags, .int .i64 p.cfd, .int .i64 p.coff, .int .i64 p.cn, .string p.cdata, .int .i64 p.ino, .int .i64 p.errno, .int .i64 p.rerrno, .int .i64 p.rfd, .string p.rdata, .slice A m c, .int .i64 p.ikind, .int .i64 p.ilinks, .int .i64 p.isize, .int .i64 p.wrote, .int .i64 p.nkind, .int .i64 p.nlinks, .int .i64 p.nsize, .int .i64 p.b0, .int .i64 p.b1, .int .i64 p.b2, .int .i64 p.b3, .int .i64 p.o0, .int .i64 p.o1, .int .i64 p.o2, .int .i64 p.o3, .int .i64 p.o4, .int .i64 p.o5, .int .i64 p.o6, .int .i64 p.o7] from rfl]
  obtain ⟨kd, hkd⟩ : ∃ z, z = p.kind := ⟨_, rfl⟩
  have HKD := Lib.hid hkd
  have HK := Lib.hid hk
  clear hk hkd
  go_enter Try.func27, Try.ntmps27
  go_upto_region 1 with (fail)
  have hb := Blk.new w 35 (p.cells (.slice A m c)) #[.int .i64 p.kind, .int .i64 p.client, .int .i64 p.epoch, .int .i64 p.seq, .int .i64 p.op, .int .i64 p.at_, .int .i64 p.n, .string p.data, .int .i64 p.old, .int .i64 p.new, .int .i64 p.ckind, .string p.path, .string p.path2, .int .i64 p.flags, .int .i64 p.cfd, .int .i64 p.coff, .int .i64 p.cn, .string p.cdata, .int .i64 p.ino, .int .i64 p.errno, .int .i64 p.rerrno, .int .i64 p.rfd, .string p.rdata, .slice A m c, .int .i64 p.ikind, .int .i64 p.ilinks, .int .i64 p.isize, .int .i64 p.wrote, .int .i64 p.nkind, .int .i64 p.nlinks, .int .i64 p.nsize, .int .i64 p.b0, .int .i64 p.b1, .int .i64 p.b2, .int .i64 p.b3, .int .i64 p.o0, .int .i64 p.o1, .int .i64 p.o2, .int .i64 p.o3, .int .i64 p.o4, .int .i64 p.o5, .int .i64 p.o6, .int .i64 p.o7] (0, 0) rfl
  have ga := (Grow.refl w).alloc (.cells #[.int .i64 p.kind, .int .i64 p.client, .int .i64 p.epoch, .int .i64 p.seq, .int .i64 p.op, .int .i64 p.at_, .int .i64 p.n, .string p.data, .int .i64 p.old, .int .i64 p.new, .int .i64 p.ckind, .string p.path, .string p.path2, .int .i64 p.flags, .int .i64 p.cfd, .int .i64 p.coff, .int .i64 p.cn, .string p.cdata, .int .i64 p.ino, .int .i64 p.errno, .int .i64 p.rerrno, .int .i64 p.rfd, .string p.rdata, .slice A m c, .int .i64 p.ikind, .int .i64 p.ilinks, .int .i64 p.isize, .int .i64 p.wrote, .int .i64 p.nkind, .int .i64 p.nlinks, .int .i64 p.nsize, .int .i64 p.b0, .int .i64 p.b1, .int .i64 p.b2, .int .i64 p.b3, .int .i64 p.o0, .int .i64 p.o1, .int .i64 p.o2, .int .i64 p.o3, .int .i64 p.o4, .int .i64 p.o5, .int .i64 p.o6, .int .i64 p.o7] 35)
  obtain ⟨w1, hw1⟩ : ∃ z, z = w.alloc (.cells #[.int .i64 p.kind, .int .i64 p.client, .int .i64 p.epoch, .int .i64 p.seq, .int .i64 p.op, .int .i64 p.at_, .int .i64 p.n, .string p.data, .int .i64 p.old, .int .i64 p.new, .int .i64 p.ckind, .string p.path, .string p.path2, .int .i64 p.flags, .int .i64 p.cfd, .int .i64 p.coff, .int .i64 p.cn, .string p.cdata, .int .i64 p.ino, .int .i64 p.errno, .int .i64 p.rerrno, .int .i64 p.rfd, .string p.rdata, .slice A m c, .int .i64 p.ikind, .int .i64 p.ilinks, .int .i64 p.isize, .int .i64 p.wrote, .int .i64 p.nkind, .int .i64 p.nlinks, .int .i64 p.nsize, .int .i64 p.b0, .int .i64 p.b1, .int .i64 p.b2, .int .i64 p.b3, .int .i64 p.o0, .int .i64 p.o1, .int .i64 p.o2, .int .i64 p.o3, .int .i64 p.o4, .int .i64 p.o5, .int .i64 p.o6, .int .i64 p.o7] 35) := ⟨_, rfl⟩
  obtain ⟨x, hx⟩ : ∃ z, z = w.heap.size := ⟨_, rfl⟩
  rw [← hw1] at hb ga ⊢
  rw [← hx] at hb ⊢
  obtain ⟨P0, hP0⟩ : ∃ z, z = Value.agg #[.int .i64 p.kind, .int .i64 p.client, .int .i64 p.epoch, .int .i64 p.seq, .int .i64 p.op, .int .i64 p.at_, .int .i64 p.n, .string p.data, .int .i64 p.old, .int .i64 p.new, .int .i64 p.ckind, .string p.path, .string p.path2, .int .i64 p.flags, .int .i64 p.cfd, .int .i64 p.coff, .int .i64 p.cn, .string p.cdata, .int .i64 p.ino, .int .i64 p.errno, .int .i64 p.rerrno, .int .i64 p.rfd, .string p.rdata, .slice A m c, .int .i64 p.ikind, .int .i64 p.ilinks, .int .i64 p.isize, .int .i64 p.wrote, .int .i64 p.nkind, .int .i64 p.nlinks, .int .i64 p.nsize, .int .i64 p.b0, .int .i64 p.b1, .int .i64 p.b2, .int .i64 p.b3, .int .i64 p.o0, .int .i64 p.o1, .int .i64 p.o2, .int .i64 p.o3, .int .i64 p.o4, .int .i64 p.o5, .int .i64 p.o6, .int .i64 p.o7] := ⟨_, rfl⟩
  rw [← hP0]
  have BX1 := Lib.hid hb
  have HG1 := Lib.hid ga
  have HX := Lib.hid hx
  have HR1 := Lib.hid (HR0.out.grow ga)
  clear hw1 hb ga hx hP0
  go_upto_region 2 with (fail)
  have hrow := Row.new w1 84 [.slice none 0 0, .bool false] _ rfl
  have ga := (Grow.refl w1).alloc (.cells #[.slice none 0 0, .bool false] 84)
  have hsz : (w1.alloc (.cells #[.slice none 0 0, .bool false] 84)).heap.size = w1.heap.size + 1 := by simp
  obtain ⟨w2, hw2⟩ : ∃ z, z = w1.alloc (.cells #[.slice none 0 0, .bool false] 84) := ⟨_, rfl⟩
  obtain ⟨g, hg⟩ : ∃ z, z = w1.heap.size := ⟨_, rfl⟩
  rw [← hw2] at hrow ga hsz ⊢
  rw [← hg] at hrow hsz ⊢
  obtain ⟨base, hbs⟩ : ∃ z, z = w2.heap.size := ⟨_, rfl⟩
  have hxl := BX1.out.1
  have hxg : ¬ x = g := by omega
  have hgb : g < base := by omega
  have hxb : x < base := by omega
  have hwb : w.heap.size ≤ g := by have := HX.out; omega
  have HW0 := Lib.hid (show RW w2 g base (.slice none 0 0) (some []) 0 from ⟨hrow, hgb, none, 0, 0, [], rfl, Own.nil _ _, Nat.le_refl _, fun l hl => by injection hl with hl; exact hl.symm⟩)
  have BX0 := Lib.hid (BX1.out.keep ga)
  have HG2 := Lib.hid (HG1.out.trans ga)
  have HT0 := Lib.hid (Turn.refl (VF g base) w2)
  have HR2 := Lib.hid (HR1.out.grow ga)
  have hb0 : base ≤ w2.heap.size := by omega
  have HVF := Lib.hid (show ¬ VF g base x from VF.off hxg hxb)
  have hlx := BX0.out.1
  clear hw2 hrow ga hg hsz hbs HR1 HG1 BX1
  have c0 : w2.cell? ⟨x, 0, none⟩ = some (.int .i64 kd) := by rw [HKD.out]; exact BX0.out.2 0 _ rfl
  go_wp2_with fail
  refine (rw_num HW0.out hb0 kd (by rw [HKD.out]; exact HP.out.kind) 1 1 rfl (by decide) 1 5 (by have := HP.out.data; have := HP.out.path; have := HP.out.path2; omega)).mono ?_
  rintro e v1 ⟨rfl, bv1, h2, t2⟩
  have HW1 := Lib.hid (show RW v1 g base bv1 none (0 + 8) by rw [← (show gd (decide ((1 : Int) ≤ kd ∧ kd ≤ 5)) (pN (some []) kd 1) = none from by rw [decide_eq_false (by rw [HKD.out]; exact HK.out)]; rfl)]; exact h2)
  have HT1 := Lib.hid (HT0.out.and t2)
  have BX1 := Lib.hid (BX0.out.turnW t2 HVF.out)
  have hb1 : base ≤ v1.heap.size := Nat.le_trans hb0 t2.size
  replace hlx := BX1.out.1
  clear h2 t2 c0 BX0 HW0 HT0 hb0
  have c0 : v1.cell? ⟨x, 0, none⟩ = some (.int .i64 kd) := by rw [HKD.out]; exact BX1.out.2 0 _ rfl
  have c1 := BX1.out.2 1 _ rfl
  go_wp2_with fail
  refine (rw_num HW1.out hb1 p.client HP.out.client 1 1 rfl (by decide) 1 8 (by have := HP.out.data; have := HP.out.path; have := HP.out.path2; omega)).mono ?_
  rintro e v2 ⟨rfl, bv2, h2, t2⟩
  have HW2 := Lib.hid (show RW v2 g base bv2 none ((0 + 8) + 8) by rw [← (show gd (decide ((1 : Int) ≤ p.client ∧ p.client ≤ 8)) (pN none p.client 1) = none from gd_none _)]; exact h2)
  have HT2 := Lib.hid (HT1.out.and t2)
  have BX2 := Lib.hid (BX1.out.turnW t2 HVF.out)
  have hb2 : base ≤ v2.heap.size := Nat.le_trans hb1 t2.size
  replace hlx := BX2.out.1
  clear h2 t2 c0 c1 BX1 HW1 HT1 hb1
  have c0 : v2.cell? ⟨x, 0, none⟩ = some (.int .i64 kd) := by rw [HKD.out]; exact BX2.out.2 0 _ rfl
  have c2 := BX2.out.2 2 _ rfl
  go_wp2_with fail
  refine (rw_num HW2.out hb2 p.epoch HP.out.epoch 4 4 rfl (by decide) 0 9223372036854775807 (by have := HP.out.data; have := HP.out.path; have := HP.out.path2; omega)).mono ?_
  rintro e v3 ⟨rfl, bv3, h2, t2⟩
  have HW3 := Lib.hid (show RW v3 g base bv3 none (((0 + 8) + 8) + 8) by rw [← (show gd (decide ((0 : Int) ≤ p.epoch ∧ p.epoch ≤ 9223372036854775807)) (pN none p.epoch 4) = none from gd_none _)]; exact h2)
  have HT3 := Lib.hid (HT2.out.and t2)
  have BX3 := Lib.hid (BX2.out.turnW t2 HVF.out)
  have hb3 : base ≤ v3.heap.size := Nat.le_trans hb2 t2.size
  replace hlx := BX3.out.1
  clear h2 t2 c0 c2 BX2 HW2 HT2 hb2
  have c0 : v3.cell? ⟨x, 0, none⟩ = some (.int .i64 kd) := by rw [HKD.out]; exact BX3.out.2 0 _ rfl
  have c3 := BX3.out.2 3 _ rfl
  go_wp2_with fail
  refine (rw_num HW3.out hb3 p.seq HP.out.seq 8 8 rfl (by decide) 0 9223372036854775807 (by have := HP.out.data; have := HP.out.path; have := HP.out.path2; omega)).mono ?_
  rintro e v4 ⟨rfl, bv4, h2, t2⟩
  have HW4 := Lib.hid (show RW v4 g base bv4 none ((((0 + 8) + 8) + 8) + 8) by rw [← (show gd (decide ((0 : Int) ≤ p.seq ∧ p.seq ≤ 9223372036854775807)) (pN none p.seq 8) = none from gd_none _)]; exact h2)
  have HT4 := Lib.hid (HT3.out.and t2)
  have BX4 := Lib.hid (BX3.out.turnW t2 HVF.out)
  have hb4 : base ≤ v4.heap.size := Nat.le_trans hb3 t2.size
  replace hlx := BX4.out.1
  clear h2 t2 c0 c3 BX3 HW3 HT3 hb3
  have c0 : v4.cell? ⟨x, 0, none⟩ = some (.int .i64 kd) := by rw [HKD.out]; exact BX4.out.2 0 _ rfl
  have HQK := Lib.hid (show kd < 1 ∨ 5 < kd by rw [HKD.out]; have := HK.out; omega)
  have q1 : (kd == 1) = false := beq_eq_false_iff_ne.2 (by have := HQK.out; omega)
  have q2 : (kd == 2) = false := beq_eq_false_iff_ne.2 (by have := HQK.out; omega)
  have q3 : (kd == 3) = false := beq_eq_false_iff_ne.2 (by have := HQK.out; omega)
  have q4 : (kd == 4) = false := beq_eq_false_iff_ne.2 (by have := HQK.out; omega)
  have q5 : (kd == 5) = false := beq_eq_false_iff_ne.2 (by have := HQK.out; omega)
  have HIN := Lib.hid (show none = innerP p from (kind0 HK.out).symm)
  obtain ⟨oE, hoE⟩ : ∃ z, z = none := ⟨_, rfl⟩
  rw [← hoE] at HW4 HIN
  clear hoE
  have HRZ := HR2.out.turnW HT4.out (fun hn q hq => VF.off (HR0.out.ne hwb hn q hq) (by obtain ⟨b, o, e, hb, -⟩ := HR0.out.2.2 hn; rw [e] at hq; injection hq with hq; subst hq; show b < base; omega))
  rw [HM.out] at HRZ
  have hcall := m_others (c := c) p HRZ (by rw [← HM.out]; exact h300)
  rw [← HM.out] at hcall
  clear HRZ
  go_upto_region 46 with (fail)
  refine wp_region_list ?_
  refine wpList_loadRow rfl 35 (.tmp 1) rfl (some 195) rfl x rfl (p.cells (.slice A m c)) _ BX4.out Try.underlying35 rfl pk_size ?_
  go_simp
  refine wpList_callC rfl (some 196) rfl 51 #[.agg (p.cells (.slice A m c)).toArray] (by first | rfl | go_simp) _ hcall (fun e w' h => ⟨_, h.1⟩) ?_
  rintro v w9 ⟨he, g9⟩
  obtain ⟨bb, hbb⟩ : ∃ z, z = decide (p = normP p) := ⟨_, rfl⟩
  rw [← hbb] at he
  obtain rfl : v = .bool bb := by injection he
  have HAN := Lib.hid (inn_bool HIN.out hbb)
  have HW9 := Lib.hid (HW4.out.keep g9)
  have HG9 := Lib.hid (show Grow w w9 from HG2.out.low ((HT4.out.low (B := w.heap.size) (fun i e => by rcases e with e | e <;> omega) HG2.out.size).trans (Below.mono g9 (by have := HT4.out.size; have := HG2.out.size; omega))))
  clear he hbb g9 hcall c0 HW4 HT4 BX4
  obtain ⟨A9, n9, c9, bs9, hbv, hown9, hn9, hl9⟩ := HW9.out.row
  subst hbv
  obtain ⟨d0, d1⟩ := HW9.out.blk.1.c2
  obtain ⟨fl, hfl⟩ : ∃ z, z = oE.isNone := ⟨_, rfl⟩
  rw [← hfl] at d1 HAN
  have HO9 := Lib.hid (show Own w9 w.heap.size A9 n9 c9 bs9 from hown9.low (by omega))
  have HL9 := Lib.hid (show ∀ l, innerP p = some l → l = bs9 from fun l hl => hl9 l (HIN.out.trans hl))
  have HN9 := Lib.hid (show n9 ≤ 1000000 by have := HP.out.data; have := HP.out.path; have := HP.out.path2; omega)
  clear hfl hown9 hn9 hl9
  cases fl with
  | true =>
    go_wp2_with fail
    go_quiet (fail)
    go_wp2_with fail
    go_ret2
    have hgq : Grow w9 (w9.drewN nq) := (Grow.refl _).drewN _
    exact ⟨⟨A9, n9, c9, bs9, by rw [HAN.out]; rfl, ⟨HO9.out.1, HO9.out.2.1, row_turnW HO9.out.2.2 (Turn.grow hgq (fun _ => False)) (fun _ _ q => q)⟩, HN9.out, HL9.out⟩, HG9.out.trans hgq⟩
  | false =>
    go_wp2_with fail
    go_quiet (fail)
    go_wp2_with fail
    go_ret2
    have hgq : Grow w9 (w9.drewN nq) := (Grow.refl _).drewN _
    exact ⟨⟨A9, n9, c9, bs9, by rw [HAN.out]; rfl, ⟨HO9.out.1, HO9.out.2.1, row_turnW HO9.out.2.2 (Turn.grow hgq (fun _ => False)) (fun _ _ q => q)⟩, HN9.out, HL9.out⟩, HG9.out.trans hgq⟩
end Go.Proofs.Ytgjcpchlijpjmaa

namespace Go.Proofs.Ytgjcpchlijpjmaa
open Go.RowKit Go.Great

set_option maxHeartbeats 16000000 in
set_option maxRecDepth 8000 in
theorem m_inner1 {w : World} {A : Option Addr} {c : Nat} (p : PK) (hp : p.ok) (hr : RS w A p.names.length p.names) (hk : p.kind = 1) :
    Calls Try.prog 27 #[.agg (p.cells (.slice A p.names.length c)).toArray] w fun e w' => InnAns w w' e p ∧ Grow w w' := by
  obtain ⟨m, hm⟩ : ∃ m, m = p.names.length := ⟨_, rfl⟩
  have HP := Lib.hid hp
  have HM := Lib.hid hm
  have HR0 := Lib.hid hr
  have h300 : m ≤ 300 := by rw [hm]; exact hp.names.1
  rw [← hm] at HR0 ⊢
  clear hm hr hp
  rw [show (p.cells (.slice A m c)).toArray = #[.int .i64 p.kind, .int .i64 p.client, .int .i64 p.epoch, .int .i64 p.seq, .int .i64 p.op, .int .i64 p.at_, .int .i64 p.n, .string p.data, .int .i64 p.old, .int .i64 p.new, .int .i64 p.ckind, .string p.path, .string p.path2, .int .i64 p.flags, .int .i64 p.cfd, .int .i64 p.coff, .int .i64 p.cn, .string p.cdata, .int .i64 p.ino, .int .i64 p.errno, .int .i64 p.rerrno, .int .i64 p.rfd, .string p.rdata, .slice A m c, .int .i64 p.ikind, .int .i64 p.ilinks, .int .i64 p.isize, .int .i64 p.wrote, .int .i64 p.nkind, .int .i64 p.nlinks, .int .i64 p.nsize, .int .i64 p.b0, .int .i64 p.b1, .int .i64 p.b2, .int .i64 p.b3, .int .i64 p.o0, .int .i64 p.o1, .int .i64 p.o2, .int .i64 p.o3, .int .i64 p.o4, .int .i64 p.o5, .int .i64 p.o6, .int .i64 p.o7] from rfl]
  obtain ⟨kd, hkd⟩ : ∃ z, z = p.kind := ⟨_, rfl⟩
  have HKD := Lib.hid hkd
  have HK := Lib.hid hk
  clear hk hkd
  go_enter Try.func27, Try.ntmps27
  go_upto_region 1 with (fail)
  have hb := Blk.new w 35 (p.cells (.slice A m c)) #[.int .i64 p.kind, .int .i64 p.client, .int .i64 p.epoch, .int .i64 p.seq, .int .i64 p.op, .int .i64 p.at_, .int .i64 p.n, .string p.data, .int .i64 p.old, .int .i64 p.new, .int .i64 p.ckind, .string p.path, .string p.path2, .int .i64 p.flags, .int .i64 p.cfd, .int .i64 p.coff, .int .i64 p.cn, .string p.cdata, .int .i64 p.ino, .int .i64 p.errno, .int .i64 p.rerrno, .int .i64 p.rfd, .string p.rdata, .slice A m c, .int .i64 p.ikind, .int .i64 p.ilinks, .int .i64 p.isize, .int .i64 p.wrote, .int .i64 p.nkind, .int .i64 p.nlinks, .int .i64 p.nsize, .int .i64 p.b0, .int .i64 p.b1, .int .i64 p.b2, .int .i64 p.b3, .int .i64 p.o0, .int .i64 p.o1, .int .i64 p.o2, .int .i64 p.o3, .int .i64 p.o4, .int .i64 p.o5, .int .i64 p.o6, .int .i64 p.o7] (0, 0) rfl
  have ga := (Grow.refl w).alloc (.cells #[.int .i64 p.kind, .int .i64 p.client, .int .i64 p.epoch, .int .i64 p.seq, .int .i64 p.op, .int .i64 p.at_, .int .i64 p.n, .string p.data, .int .i64 p.old, .int .i64 p.new, .int .i64 p.ckind, .string p.path, .string p.path2, .int .i64 p.flags, .int .i64 p.cfd, .int .i64 p.coff, .int .i64 p.cn, .string p.cdata, .int .i64 p.ino, .int .i64 p.errno, .int .i64 p.rerrno, .int .i64 p.rfd, .string p.rdata, .slice A m c, .int .i64 p.ikind, .int .i64 p.ilinks, .int .i64 p.isize, .int .i64 p.wrote, .int .i64 p.nkind, .int .i64 p.nlinks, .int .i64 p.nsize, .int .i64 p.b0, .int .i64 p.b1, .int .i64 p.b2, .int .i64 p.b3, .int .i64 p.o0, .int .i64 p.o1, .int .i64 p.o2, .int .i64 p.o3, .int .i64 p.o4, .int .i64 p.o5, .int .i64 p.o6, .int .i64 p.o7] 35)
  obtain ⟨w1, hw1⟩ : ∃ z, z = w.alloc (.cells #[.int .i64 p.kind, .int .i64 p.client, .int .i64 p.epoch, .int .i64 p.seq, .int .i64 p.op, .int .i64 p.at_, .int .i64 p.n, .string p.data, .int .i64 p.old, .int .i64 p.new, .int .i64 p.ckind, .string p.path, .string p.path2, .int .i64 p.flags, .int .i64 p.cfd, .int .i64 p.coff, .int .i64 p.cn, .string p.cdata, .int .i64 p.ino, .int .i64 p.errno, .int .i64 p.rerrno, .int .i64 p.rfd, .string p.rdata, .slice A m c, .int .i64 p.ikind, .int .i64 p.ilinks, .int .i64 p.isize, .int .i64 p.wrote, .int .i64 p.nkind, .int .i64 p.nlinks, .int .i64 p.nsize, .int .i64 p.b0, .int .i64 p.b1, .int .i64 p.b2, .int .i64 p.b3, .int .i64 p.o0, .int .i64 p.o1, .int .i64 p.o2, .int .i64 p.o3, .int .i64 p.o4, .int .i64 p.o5, .int .i64 p.o6, .int .i64 p.o7] 35) := ⟨_, rfl⟩
  obtain ⟨x, hx⟩ : ∃ z, z = w.heap.size := ⟨_, rfl⟩
  rw [← hw1] at hb ga ⊢
  rw [← hx] at hb ⊢
  obtain ⟨P0, hP0⟩ : ∃ z, z = Value.agg #[.int .i64 p.kind, .int .i64 p.client, .int .i64 p.epoch, .int .i64 p.seq, .int .i64 p.op, .int .i64 p.at_, .int .i64 p.n, .string p.data, .int .i64 p.old, .int .i64 p.new, .int .i64 p.ckind, .string p.path, .string p.path2, .int .i64 p.flags, .int .i64 p.cfd, .int .i64 p.coff, .int .i64 p.cn, .string p.cdata, .int .i64 p.ino, .int .i64 p.errno, .int .i64 p.rerrno, .int .i64 p.rfd, .string p.rdata, .slice A m c, .int .i64 p.ikind, .int .i64 p.ilinks, .int .i64 p.isize, .int .i64 p.wrote, .int .i64 p.nkind, .int .i64 p.nlinks, .int .i64 p.nsize, .int .i64 p.b0, .int .i64 p.b1, .int .i64 p.b2, .int .i64 p.b3, .int .i64 p.o0, .int .i64 p.o1, .int .i64 p.o2, .int .i64 p.o3, .int .i64 p.o4, .int .i64 p.o5, .int .i64 p.o6, .int .i64 p.o7] := ⟨_, rfl⟩
  rw [← hP0]
  have BX1 := Lib.hid hb
  have HG1 := Lib.hid ga
  have HX := Lib.hid hx
  have HR1 := Lib.hid (HR0.out.grow ga)
  clear hw1 hb ga hx hP0
  go_upto_region 2 with (fail)
  have hrow := Row.new w1 84 [.slice none 0 0, .bool false] _ rfl
  have ga := (Grow.refl w1).alloc (.cells #[.slice none 0 0, .bool false] 84)
  have hsz : (w1.alloc (.cells #[.slice none 0 0, .bool false] 84)).heap.size = w1.heap.size + 1 := by simp
  obtain ⟨w2, hw2⟩ : ∃ z, z = w1.alloc (.cells #[.slice none 0 0, .bool false] 84) := ⟨_, rfl⟩
  obtain ⟨g, hg⟩ : ∃ z, z = w1.heap.size := ⟨_, rfl⟩
  rw [← hw2] at hrow ga hsz ⊢
  rw [← hg] at hrow hsz ⊢
  obtain ⟨base, hbs⟩ : ∃ z, z = w2.heap.size := ⟨_, rfl⟩
  have hxl := BX1.out.1
  have hxg : ¬ x = g := by omega
  have hgb : g < base := by omega
  have hxb : x < base := by omega
  have hwb : w.heap.size ≤ g := by have := HX.out; omega
  have HW0 := Lib.hid (show RW w2 g base (.slice none 0 0) (some []) 0 from ⟨hrow, hgb, none, 0, 0, [], rfl, Own.nil _ _, Nat.le_refl _, fun l hl => by injection hl with hl; exact hl.symm⟩)
  have BX0 := Lib.hid (BX1.out.keep ga)
  have HG2 := Lib.hid (HG1.out.trans ga)
  have HT0 := Lib.hid (Turn.refl (VF g base) w2)
  have HR2 := Lib.hid (HR1.out.grow ga)
  have hb0 : base ≤ w2.heap.size := by omega
  have HVF := Lib.hid (show ¬ VF g base x from VF.off hxg hxb)
  have hlx := BX0.out.1
  clear hw2 hrow ga hg hsz hbs HR1 HG1 BX1
  have c0 : w2.cell? ⟨x, 0, none⟩ = some (.int .i64 1) := by rw [← HK.out]; exact BX0.out.2 0 _ rfl
  go_wp2_with fail
  refine (rw_num HW0.out hb0 (1 : Int) ⟨by decide, by decide⟩ 1 1 rfl (by decide) 1 5 (by have := HP.out.data; have := HP.out.path; have := HP.out.path2; omega)).mono ?_
  rintro e v1 ⟨rfl, bv1, h2, t2⟩
  have HW1 := Lib.hid (show RW v1 g base bv1 (pN (some []) 1 1) (0 + 8) by rw [← (show gd (decide ((1 : Int) ≤ 1 ∧ (1 : Int) ≤ 5)) (pN (some []) 1 1) = (pN (some []) 1 1) from rfl)]; exact h2)
  have HT1 := Lib.hid (HT0.out.and t2)
  have BX1 := Lib.hid (BX0.out.turnW t2 HVF.out)
  have hb1 : base ≤ v1.heap.size := Nat.le_trans hb0 t2.size
  replace hlx := BX1.out.1
  clear h2 t2 c0 BX0 HW0 HT0 hb0
  have c0 : v1.cell? ⟨x, 0, none⟩ = some (.int .i64 1) := by rw [← HK.out]; exact BX1.out.2 0 _ rfl
  have c1 := BX1.out.2 1 _ rfl
  go_wp2_with fail
  refine (rw_num HW1.out hb1 p.client HP.out.client 1 1 rfl (by decide) 1 8 (by have := HP.out.data; have := HP.out.path; have := HP.out.path2; omega)).mono ?_
  rintro e v2 ⟨rfl, bv2, h2, t2⟩
  have HW2 := Lib.hid (show RW v2 g base bv2 (pN (pN (gd (cliB p.client) (some [])) 1 1) p.client 1) ((0 + 8) + 8) by rw [← (show gd (decide ((1 : Int) ≤ p.client ∧ p.client ≤ 8)) (pN (pN (some []) 1 1) p.client 1) = (pN (pN (gd (cliB p.client) (some [])) 1 1) p.client 1) from by rw [gd_pN, gd_pN]; rfl)]; exact h2)
  have HT2 := Lib.hid (HT1.out.and t2)
  have BX2 := Lib.hid (BX1.out.turnW t2 HVF.out)
  have hb2 : base ≤ v2.heap.size := Nat.le_trans hb1 t2.size
  replace hlx := BX2.out.1
  clear h2 t2 c0 c1 BX1 HW1 HT1 hb1
  have c0 : v2.cell? ⟨x, 0, none⟩ = some (.int .i64 1) := by rw [← HK.out]; exact BX2.out.2 0 _ rfl
  have c2 := BX2.out.2 2 _ rfl
  go_wp2_with fail
  refine (rw_num HW2.out hb2 p.epoch HP.out.epoch 4 4 rfl (by decide) 0 9223372036854775807 (by have := HP.out.data; have := HP.out.path; have := HP.out.path2; omega)).mono ?_
  rintro e v3 ⟨rfl, bv3, h2, t2⟩
  have HW3 := Lib.hid (show RW v3 g base bv3 (pN (pN (pN (gd (cliB p.client) (some [])) 1 1) p.client 1) p.epoch 4) (((0 + 8) + 8) + 8) by rw [← (show gd (decide ((0 : Int) ≤ p.epoch ∧ p.epoch ≤ 9223372036854775807)) (pN (pN (pN (gd (cliB p.client) (some [])) 1 1) p.client 1) p.epoch 4) = (pN (pN (pN (gd (cliB p.client) (some [])) 1 1) p.client 1) p.epoch 4) from gd_all HP.out.epoch _ _)]; exact h2)
  have HT3 := Lib.hid (HT2.out.and t2)
  have BX3 := Lib.hid (BX2.out.turnW t2 HVF.out)
  have hb3 : base ≤ v3.heap.size := Nat.le_trans hb2 t2.size
  replace hlx := BX3.out.1
  clear h2 t2 c0 c2 BX2 HW2 HT2 hb2
  have c0 : v3.cell? ⟨x, 0, none⟩ = some (.int .i64 1) := by rw [← HK.out]; exact BX3.out.2 0 _ rfl
  have c3 := BX3.out.2 3 _ rfl
  go_wp2_with fail
  refine (rw_num HW3.out hb3 p.seq HP.out.seq 8 8 rfl (by decide) 0 9223372036854775807 (by have := HP.out.data; have := HP.out.path; have := HP.out.path2; omega)).mono ?_
  rintro e v4 ⟨rfl, bv4, h2, t2⟩
  have HW4 := Lib.hid (show RW v4 g base bv4 (pN (pN (pN (pN (gd (cliB p.client) (some [])) 1 1) p.client 1) p.epoch 4) p.seq 8) ((((0 + 8) + 8) + 8) + 8) by rw [← (show gd (decide ((0 : Int) ≤ p.seq ∧ p.seq ≤ 9223372036854775807)) (pN (pN (pN (pN (gd (cliB p.client) (some [])) 1 1) p.client 1) p.epoch 4) p.seq 8) = (pN (pN (pN (pN (gd (cliB p.client) (some [])) 1 1) p.client 1) p.epoch 4) p.seq 8) from gd_all HP.out.seq _ _)]; exact h2)
  have HT4 := Lib.hid (HT3.out.and t2)
  have BX4 := Lib.hid (BX3.out.turnW t2 HVF.out)
  have hb4 : base ≤ v4.heap.size := Nat.le_trans hb3 t2.size
  replace hlx := BX4.out.1
  clear h2 t2 c0 c3 BX3 HW3 HT3 hb3
  replace HW4 := Lib.hid (show RW v4 g base bv4 (headP p) 32 by have := HW4.out; rw [← HK.out] at this; exact this)
  have c0 : v4.cell? ⟨x, 0, none⟩ = some (.int .i64 1) := by rw [← HK.out]; exact BX4.out.2 0 _ rfl
  have c4 := BX4.out.2 4 _ rfl
  go_wp2_with fail
  refine (rw_num HW4.out hb4 p.op HP.out.op 1 1 rfl (by decide) 1 4 (by have := HP.out.data; have := HP.out.path; have := HP.out.path2; omega)).mono ?_
  rintro e v5 ⟨rfl, bv5, h2, t2⟩
  have HW5 := Lib.hid (show RW v5 g base bv5 (pN (gd (verbB p.op) (headP p)) p.op 1) (32 + 8) by rw [← (show gd (decide ((1 : Int) ≤ p.op ∧ p.op ≤ 4)) (pN (headP p) p.op 1) = (pN (gd (verbB p.op) (headP p)) p.op 1) from gd_num _ _ _ _ _ _ rfl)]; exact h2)
  have HT5 := Lib.hid (HT4.out.and t2)
  have BX5 := Lib.hid (BX4.out.turnW t2 HVF.out)
  have hb5 : base ≤ v5.heap.size := Nat.le_trans hb4 t2.size
  replace hlx := BX5.out.1
  clear h2 t2 c0 c4 BX4 HW4 HT4 hb4
  have c0 : v5.cell? ⟨x, 0, none⟩ = some (.int .i64 1) := by rw [← HK.out]; exact BX5.out.2 0 _ rfl
  have c5 := BX5.out.2 5 _ rfl
  go_wp2_with fail
  refine (rw_num HW5.out hb5 p.at_ HP.out.at_ 4 4 rfl (by decide) 0 9223372036854775807 (by have := HP.out.data; have := HP.out.path; have := HP.out.path2; omega)).mono ?_
  rintro e v6 ⟨rfl, bv6, h2, t2⟩
  have HW6 := Lib.hid (show RW v6 g base bv6 (pN (pN (gd (verbB p.op) (headP p)) p.op 1) p.at_ 4) ((32 + 8) + 8) by rw [← (show gd (decide ((0 : Int) ≤ p.at_ ∧ p.at_ ≤ 9223372036854775807)) (pN (pN (gd (verbB p.op) (headP p)) p.op 1) p.at_ 4) = (pN (pN (gd (verbB p.op) (headP p)) p.op 1) p.at_ 4) from gd_all HP.out.at_ _ _)]; exact h2)
  have HT6 := Lib.hid (HT5.out.and t2)
  have BX6 := Lib.hid (BX5.out.turnW t2 HVF.out)
  have hb6 : base ≤ v6.heap.size := Nat.le_trans hb5 t2.size
  replace hlx := BX6.out.1
  clear h2 t2 c0 c5 BX5 HW5 HT5 hb5
  have c0 : v6.cell? ⟨x, 0, none⟩ = some (.int .i64 1) := by rw [← HK.out]; exact BX6.out.2 0 _ rfl
  have c6 := BX6.out.2 6 _ rfl
  go_wp2_with fail
  refine (rw_num HW6.out hb6 p.n HP.out.n 2 2 rfl (by decide) 0 9223372036854775807 (by have := HP.out.data; have := HP.out.path; have := HP.out.path2; omega)).mono ?_
  rintro e v7 ⟨rfl, bv7, h2, t2⟩
  have HW7 := Lib.hid (show RW v7 g base bv7 (pN (pN (pN (gd (verbB p.op) (headP p)) p.op 1) p.at_ 4) p.n 2) (((32 + 8) + 8) + 8) by rw [← (show gd (decide ((0 : Int) ≤ p.n ∧ p.n ≤ 9223372036854775807)) (pN (pN (pN (gd (verbB p.op) (headP p)) p.op 1) p.at_ 4) p.n 2) = (pN (pN (pN (gd (verbB p.op) (headP p)) p.op 1) p.at_ 4) p.n 2) from gd_all HP.out.n _ _)]; exact h2)
  have HT7 := Lib.hid (HT6.out.and t2)
  have BX7 := Lib.hid (BX6.out.turnW t2 HVF.out)
  have hb7 : base ≤ v7.heap.size := Nat.le_trans hb6 t2.size
  replace hlx := BX7.out.1
  clear h2 t2 c0 c6 BX6 HW6 HT6 hb6
  have c0 : v7.cell? ⟨x, 0, none⟩ = some (.int .i64 1) := by rw [← HK.out]; exact BX7.out.2 0 _ rfl
  have c7 := BX7.out.2 7 _ rfl
  go_wp2_with fail
  refine (rw_text HW7.out hb7 p.data (by have := HP.out.data; omega) 2 2 rfl (by decide) 128 (by have := HP.out.data; have := HP.out.path; have := HP.out.path2; omega)).mono ?_
  rintro e v8 ⟨rfl, bv8, h2, t2⟩
  have HW8 := Lib.hid (show RW v8 g base bv8 (pT (pN (pN (pN (gd (verbB p.op) (headP p)) p.op 1) p.at_ 4) p.n 2) p.data 2 128) ((((32 + 8) + 8) + 8) + 8 + p.data.size) from h2)
  have HT8 := Lib.hid (HT7.out.and t2)
  have BX8 := Lib.hid (BX7.out.turnW t2 HVF.out)
  have hb8 : base ≤ v8.heap.size := Nat.le_trans hb7 t2.size
  replace hlx := BX8.out.1
  clear h2 t2 c0 c7 BX7 HW7 HT7 hb7
  have c0 : v8.cell? ⟨x, 0, none⟩ = some (.int .i64 1) := by rw [← HK.out]; exact BX8.out.2 0 _ rfl
  have c8 := BX8.out.2 8 _ rfl
  go_wp2_with fail
  refine (rw_num HW8.out hb8 p.old HP.out.old 8 8 rfl (by decide) 0 9223372036854775807 (by have := HP.out.data; have := HP.out.path; have := HP.out.path2; omega)).mono ?_
  rintro e v9 ⟨rfl, bv9, h2, t2⟩
  have HW9 := Lib.hid (show RW v9 g base bv9 (pN (pT (pN (pN (pN (gd (verbB p.op) (headP p)) p.op 1) p.at_ 4) p.n 2) p.data 2 128) p.old 8) (((((32 + 8) + 8) + 8) + 8 + p.data.size) + 8) by rw [← (show gd (decide ((0 : Int) ≤ p.old ∧ p.old ≤ 9223372036854775807)) (pN (pT (pN (pN (pN (gd (verbB p.op) (headP p)) p.op 1) p.at_ 4) p.n 2) p.data 2 128) p.old 8) = (pN (pT (pN (pN (pN (gd (verbB p.op) (headP p)) p.op 1) p.at_ 4) p.n 2) p.data 2 128) p.old 8) from gd_all HP.out.old _ _)]; exact h2)
  have HT9 := Lib.hid (HT8.out.and t2)
  have BX9 := Lib.hid (BX8.out.turnW t2 HVF.out)
  have hb9 : base ≤ v9.heap.size := Nat.le_trans hb8 t2.size
  replace hlx := BX9.out.1
  clear h2 t2 c0 c8 BX8 HW8 HT8 hb8
  have c0 : v9.cell? ⟨x, 0, none⟩ = some (.int .i64 1) := by rw [← HK.out]; exact BX9.out.2 0 _ rfl
  have c9 := BX9.out.2 9 _ rfl
  go_wp2_with fail
  refine (rw_num HW9.out hb9 p.new HP.out.new 8 8 rfl (by decide) 0 9223372036854775807 (by have := HP.out.data; have := HP.out.path; have := HP.out.path2; omega)).mono ?_
  rintro e v10 ⟨rfl, bv10, h2, t2⟩
  have HW10 := Lib.hid (show RW v10 g base bv10 (pN (pN (pT (pN (pN (pN (gd (verbB p.op) (headP p)) p.op 1) p.at_ 4) p.n 2) p.data 2 128) p.old 8) p.new 8) ((((((32 + 8) + 8) + 8) + 8 + p.data.size) + 8) + 8) by rw [← (show gd (decide ((0 : Int) ≤ p.new ∧ p.new ≤ 9223372036854775807)) (pN (pN (pT (pN (pN (pN (gd (verbB p.op) (headP p)) p.op 1) p.at_ 4) p.n 2) p.data 2 128) p.old 8) p.new 8) = (pN (pN (pT (pN (pN (pN (gd (verbB p.op) (headP p)) p.op 1) p.at_ 4) p.n 2) p.data 2 128) p.old 8) p.new 8) from gd_all HP.out.new _ _)]; exact h2)
  have HT10 := Lib.hid (HT9.out.and t2)
  have BX10 := Lib.hid (BX9.out.turnW t2 HVF.out)
  have hb10 : base ≤ v10.heap.size := Nat.le_trans hb9 t2.size
  replace hlx := BX10.out.1
  clear h2 t2 c0 c9 BX9 HW9 HT9 hb9
  have c0 : v10.cell? ⟨x, 0, none⟩ = some (.int .i64 1) := by rw [← HK.out]; exact BX10.out.2 0 _ rfl
  have HIN := Lib.hid (show (pN (pN (pT (pN (pN (pN (gd (verbB p.op) (headP p)) p.op 1) p.at_ 4) p.n 2) p.data 2 128) p.old 8) p.new 8) = innerP p from ((kind1 HK.out).1).symm)
  obtain ⟨oE, hoE⟩ : ∃ z, z = (pN (pN (pT (pN (pN (pN (gd (verbB p.op) (headP p)) p.op 1) p.at_ 4) p.n 2) p.data 2 128) p.old 8) p.new 8) := ⟨_, rfl⟩
  rw [← hoE] at HW10 HIN
  clear hoE
  have HRZ := HR2.out.turnW HT10.out (fun hn q hq => VF.off (HR0.out.ne hwb hn q hq) (by obtain ⟨b, o, e, hb, -⟩ := HR0.out.2.2 hn; rw [e] at hq; injection hq with hq; subst hq; show b < base; omega))
  rw [HM.out] at HRZ
  have hcall := m_others (c := c) p HRZ (by rw [← HM.out]; exact h300)
  rw [← HM.out] at hcall
  clear HRZ
  go_upto_region 46 with (fail)
  refine wp_region_list ?_
  refine wpList_loadRow rfl 35 (.tmp 1) rfl (some 195) rfl x rfl (p.cells (.slice A m c)) _ BX10.out Try.underlying35 rfl pk_size ?_
  go_simp
  refine wpList_callC rfl (some 196) rfl 51 #[.agg (p.cells (.slice A m c)).toArray] (by first | rfl | go_simp) _ hcall (fun e w' h => ⟨_, h.1⟩) ?_
  rintro v w9 ⟨he, g9⟩
  obtain ⟨bb, hbb⟩ : ∃ z, z = decide (p = normP p) := ⟨_, rfl⟩
  rw [← hbb] at he
  obtain rfl : v = .bool bb := by injection he
  have HAN := Lib.hid (inn_bool HIN.out hbb)
  have HW9 := Lib.hid (HW10.out.keep g9)
  have HG9 := Lib.hid (show Grow w w9 from HG2.out.low ((HT10.out.low (B := w.heap.size) (fun i e => by rcases e with e | e <;> omega) HG2.out.size).trans (Below.mono g9 (by have := HT10.out.size; have := HG2.out.size; omega))))
  clear he hbb g9 hcall c0 HW10 HT10 BX10
  obtain ⟨A9, n9, c9, bs9, hbv, hown9, hn9, hl9⟩ := HW9.out.row
  subst hbv
  obtain ⟨d0, d1⟩ := HW9.out.blk.1.c2
  obtain ⟨fl, hfl⟩ : ∃ z, z = oE.isNone := ⟨_, rfl⟩
  rw [← hfl] at d1 HAN
  have HO9 := Lib.hid (show Own w9 w.heap.size A9 n9 c9 bs9 from hown9.low (by omega))
  have HL9 := Lib.hid (show ∀ l, innerP p = some l → l = bs9 from fun l hl => hl9 l (HIN.out.trans hl))
  have HN9 := Lib.hid (show n9 ≤ 1000000 by have := HP.out.data; have := HP.out.path; have := HP.out.path2; omega)
  clear hfl hown9 hn9 hl9
  cases fl with
  | true =>
    go_wp2_with fail
    go_quiet (fail)
    go_wp2_with fail
    go_ret2
    have hgq : Grow w9 (w9.drewN nq) := (Grow.refl _).drewN _
    exact ⟨⟨A9, n9, c9, bs9, by rw [HAN.out]; rfl, ⟨HO9.out.1, HO9.out.2.1, row_turnW HO9.out.2.2 (Turn.grow hgq (fun _ => False)) (fun _ _ q => q)⟩, HN9.out, HL9.out⟩, HG9.out.trans hgq⟩
  | false =>
    go_wp2_with fail
    go_quiet (fail)
    go_wp2_with fail
    go_ret2
    have hgq : Grow w9 (w9.drewN nq) := (Grow.refl _).drewN _
    exact ⟨⟨A9, n9, c9, bs9, by rw [HAN.out]; rfl, ⟨HO9.out.1, HO9.out.2.1, row_turnW HO9.out.2.2 (Turn.grow hgq (fun _ => False)) (fun _ _ q => q)⟩, HN9.out, HL9.out⟩, HG9.out.trans hgq⟩
end Go.Proofs.Ytgjcpchlijpjmaa

namespace Go.Proofs.Ytgjcpchlijpjmaa
open Go.RowKit Go.Great

set_option maxHeartbeats 16000000 in
set_option maxRecDepth 8000 in
theorem m_inner2 {w : World} {A : Option Addr} {c : Nat} (p : PK) (hp : p.ok) (hr : RS w A p.names.length p.names) (hk : p.kind = 2) :
    Calls Try.prog 27 #[.agg (p.cells (.slice A p.names.length c)).toArray] w fun e w' => InnAns w w' e p ∧ Grow w w' := by
  obtain ⟨m, hm⟩ : ∃ m, m = p.names.length := ⟨_, rfl⟩
  have HP := Lib.hid hp
  have HM := Lib.hid hm
  have HR0 := Lib.hid hr
  have h300 : m ≤ 300 := by rw [hm]; exact hp.names.1
  rw [← hm] at HR0 ⊢
  clear hm hr hp
  rw [show (p.cells (.slice A m c)).toArray = #[.int .i64 p.kind, .int .i64 p.client, .int .i64 p.epoch, .int .i64 p.seq, .int .i64 p.op, .int .i64 p.at_, .int .i64 p.n, .string p.data, .int .i64 p.old, .int .i64 p.new, .int .i64 p.ckind, .string p.path, .string p.path2, .int .i64 p.flags, .int .i64 p.cfd, .int .i64 p.coff, .int .i64 p.cn, .string p.cdata, .int .i64 p.ino, .int .i64 p.errno, .int .i64 p.rerrno, .int .i64 p.rfd, .string p.rdata, .slice A m c, .int .i64 p.ikind, .int .i64 p.ilinks, .int .i64 p.isize, .int .i64 p.wrote, .int .i64 p.nkind, .int .i64 p.nlinks, .int .i64 p.nsize, .int .i64 p.b0, .int .i64 p.b1, .int .i64 p.b2, .int .i64 p.b3, .int .i64 p.o0, .int .i64 p.o1, .int .i64 p.o2, .int .i64 p.o3, .int .i64 p.o4, .int .i64 p.o5, .int .i64 p.o6, .int .i64 p.o7] from rfl]
  obtain ⟨kd, hkd⟩ : ∃ z, z = p.kind := ⟨_, rfl⟩
  have HKD := Lib.hid hkd
  have HK := Lib.hid hk
  clear hk hkd
  go_enter Try.func27, Try.ntmps27
  go_upto_region 1 with (fail)
  have hb := Blk.new w 35 (p.cells (.slice A m c)) #[.int .i64 p.kind, .int .i64 p.client, .int .i64 p.epoch, .int .i64 p.seq, .int .i64 p.op, .int .i64 p.at_, .int .i64 p.n, .string p.data, .int .i64 p.old, .int .i64 p.new, .int .i64 p.ckind, .string p.path, .string p.path2, .int .i64 p.flags, .int .i64 p.cfd, .int .i64 p.coff, .int .i64 p.cn, .string p.cdata, .int .i64 p.ino, .int .i64 p.errno, .int .i64 p.rerrno, .int .i64 p.rfd, .string p.rdata, .slice A m c, .int .i64 p.ikind, .int .i64 p.ilinks, .int .i64 p.isize, .int .i64 p.wrote, .int .i64 p.nkind, .int .i64 p.nlinks, .int .i64 p.nsize, .int .i64 p.b0, .int .i64 p.b1, .int .i64 p.b2, .int .i64 p.b3, .int .i64 p.o0, .int .i64 p.o1, .int .i64 p.o2, .int .i64 p.o3, .int .i64 p.o4, .int .i64 p.o5, .int .i64 p.o6, .int .i64 p.o7] (0, 0) rfl
  have ga := (Grow.refl w).alloc (.cells #[.int .i64 p.kind, .int .i64 p.client, .int .i64 p.epoch, .int .i64 p.seq, .int .i64 p.op, .int .i64 p.at_, .int .i64 p.n, .string p.data, .int .i64 p.old, .int .i64 p.new, .int .i64 p.ckind, .string p.path, .string p.path2, .int .i64 p.flags, .int .i64 p.cfd, .int .i64 p.coff, .int .i64 p.cn, .string p.cdata, .int .i64 p.ino, .int .i64 p.errno, .int .i64 p.rerrno, .int .i64 p.rfd, .string p.rdata, .slice A m c, .int .i64 p.ikind, .int .i64 p.ilinks, .int .i64 p.isize, .int .i64 p.wrote, .int .i64 p.nkind, .int .i64 p.nlinks, .int .i64 p.nsize, .int .i64 p.b0, .int .i64 p.b1, .int .i64 p.b2, .int .i64 p.b3, .int .i64 p.o0, .int .i64 p.o1, .int .i64 p.o2, .int .i64 p.o3, .int .i64 p.o4, .int .i64 p.o5, .int .i64 p.o6, .int .i64 p.o7] 35)
  obtain ⟨w1, hw1⟩ : ∃ z, z = w.alloc (.cells #[.int .i64 p.kind, .int .i64 p.client, .int .i64 p.epoch, .int .i64 p.seq, .int .i64 p.op, .int .i64 p.at_, .int .i64 p.n, .string p.data, .int .i64 p.old, .int .i64 p.new, .int .i64 p.ckind, .string p.path, .string p.path2, .int .i64 p.flags, .int .i64 p.cfd, .int .i64 p.coff, .int .i64 p.cn, .string p.cdata, .int .i64 p.ino, .int .i64 p.errno, .int .i64 p.rerrno, .int .i64 p.rfd, .string p.rdata, .slice A m c, .int .i64 p.ikind, .int .i64 p.ilinks, .int .i64 p.isize, .int .i64 p.wrote, .int .i64 p.nkind, .int .i64 p.nlinks, .int .i64 p.nsize, .int .i64 p.b0, .int .i64 p.b1, .int .i64 p.b2, .int .i64 p.b3, .int .i64 p.o0, .int .i64 p.o1, .int .i64 p.o2, .int .i64 p.o3, .int .i64 p.o4, .int .i64 p.o5, .int .i64 p.o6, .int .i64 p.o7] 35) := ⟨_, rfl⟩
  obtain ⟨x, hx⟩ : ∃ z, z = w.heap.size := ⟨_, rfl⟩
  rw [← hw1] at hb ga ⊢
  rw [← hx] at hb ⊢
  obtain ⟨P0, hP0⟩ : ∃ z, z = Value.agg #[.int .i64 p.kind, .int .i64 p.client, .int .i64 p.epoch, .int .i64 p.seq, .int .i64 p.op, .int .i64 p.at_, .int .i64 p.n, .string p.data, .int .i64 p.old, .int .i64 p.new, .int .i64 p.ckind, .string p.path, .string p.path2, .int .i64 p.flags, .int .i64 p.cfd, .int .i64 p.coff, .int .i64 p.cn, .string p.cdata, .int .i64 p.ino, .int .i64 p.errno, .int .i64 p.rerrno, .int .i64 p.rfd, .string p.rdata, .slice A m c, .int .i64 p.ikind, .int .i64 p.ilinks, .int .i64 p.isize, .int .i64 p.wrote, .int .i64 p.nkind, .int .i64 p.nlinks, .int .i64 p.nsize, .int .i64 p.b0, .int .i64 p.b1, .int .i64 p.b2, .int .i64 p.b3, .int .i64 p.o0, .int .i64 p.o1, .int .i64 p.o2, .int .i64 p.o3, .int .i64 p.o4, .int .i64 p.o5, .int .i64 p.o6, .int .i64 p.o7] := ⟨_, rfl⟩
  rw [← hP0]
  have BX1 := Lib.hid hb
  have HG1 := Lib.hid ga
  have HX := Lib.hid hx
  have HR1 := Lib.hid (HR0.out.grow ga)
  clear hw1 hb ga hx hP0
  go_upto_region 2 with (fail)
  have hrow := Row.new w1 84 [.slice none 0 0, .bool false] _ rfl
  have ga := (Grow.refl w1).alloc (.cells #[.slice none 0 0, .bool false] 84)
  have hsz : (w1.alloc (.cells #[.slice none 0 0, .bool false] 84)).heap.size = w1.heap.size + 1 := by simp
  obtain ⟨w2, hw2⟩ : ∃ z, z = w1.alloc (.cells #[.slice none 0 0, .bool false] 84) := ⟨_, rfl⟩
  obtain ⟨g, hg⟩ : ∃ z, z = w1.heap.size := ⟨_, rfl⟩
  rw [← hw2] at hrow ga hsz ⊢
  rw [← hg] at hrow hsz ⊢
  obtain ⟨base, hbs⟩ : ∃ z, z = w2.heap.size := ⟨_, rfl⟩
  have hxl := BX1.out.1
  have hxg : ¬ x = g := by omega
  have hgb : g < base := by omega
  have hxb : x < base := by omega
  have hwb : w.heap.size ≤ g := by have := HX.out; omega
  have HW0 := Lib.hid (show RW w2 g base (.slice none 0 0) (some []) 0 from ⟨hrow, hgb, none, 0, 0, [], rfl, Own.nil _ _, Nat.le_refl _, fun l hl => by injection hl with hl; exact hl.symm⟩)
  have BX0 := Lib.hid (BX1.out.keep ga)
  have HG2 := Lib.hid (HG1.out.trans ga)
  have HT0 := Lib.hid (Turn.refl (VF g base) w2)
  have HR2 := Lib.hid (HR1.out.grow ga)
  have hb0 : base ≤ w2.heap.size := by omega
  have HVF := Lib.hid (show ¬ VF g base x from VF.off hxg hxb)
  have hlx := BX0.out.1
  clear hw2 hrow ga hg hsz hbs HR1 HG1 BX1
  have c0 : w2.cell? ⟨x, 0, none⟩ = some (.int .i64 2) := by rw [← HK.out]; exact BX0.out.2 0 _ rfl
  go_wp2_with fail
  refine (rw_num HW0.out hb0 (2 : Int) ⟨by decide, by decide⟩ 1 1 rfl (by decide) 1 5 (by have := HP.out.data; have := HP.out.path; have := HP.out.path2; omega)).mono ?_
  rintro e v1 ⟨rfl, bv1, h2, t2⟩
  have HW1 := Lib.hid (show RW v1 g base bv1 (pN (some []) 2 1) (0 + 8) by rw [← (show gd (decide ((1 : Int) ≤ 2 ∧ (2 : Int) ≤ 5)) (pN (some []) 2 1) = (pN (some []) 2 1) from rfl)]; exact h2)
  have HT1 := Lib.hid (HT0.out.and t2)
  have BX1 := Lib.hid (BX0.out.turnW t2 HVF.out)
  have hb1 : base ≤ v1.heap.size := Nat.le_trans hb0 t2.size
  replace hlx := BX1.out.1
  clear h2 t2 c0 BX0 HW0 HT0 hb0
  have c0 : v1.cell? ⟨x, 0, none⟩ = some (.int .i64 2) := by rw [← HK.out]; exact BX1.out.2 0 _ rfl
  have c1 := BX1.out.2 1 _ rfl
  go_wp2_with fail
  refine (rw_num HW1.out hb1 p.client HP.out.client 1 1 rfl (by decide) 1 8 (by have := HP.out.data; have := HP.out.path; have := HP.out.path2; omega)).mono ?_
  rintro e v2 ⟨rfl, bv2, h2, t2⟩
  have HW2 := Lib.hid (show RW v2 g base bv2 (pN (pN (gd (cliB p.client) (some [])) 2 1) p.client 1) ((0 + 8) + 8) by rw [← (show gd (decide ((1 : Int) ≤ p.client ∧ p.client ≤ 8)) (pN (pN (some []) 2 1) p.client 1) = (pN (pN (gd (cliB p.client) (some [])) 2 1) p.client 1) from by rw [gd_pN, gd_pN]; rfl)]; exact h2)
  have HT2 := Lib.hid (HT1.out.and t2)
  have BX2 := Lib.hid (BX1.out.turnW t2 HVF.out)
  have hb2 : base ≤ v2.heap.size := Nat.le_trans hb1 t2.size
  replace hlx := BX2.out.1
  clear h2 t2 c0 c1 BX1 HW1 HT1 hb1
  have c0 : v2.cell? ⟨x, 0, none⟩ = some (.int .i64 2) := by rw [← HK.out]; exact BX2.out.2 0 _ rfl
  have c2 := BX2.out.2 2 _ rfl
  go_wp2_with fail
  refine (rw_num HW2.out hb2 p.epoch HP.out.epoch 4 4 rfl (by decide) 0 9223372036854775807 (by have := HP.out.data; have := HP.out.path; have := HP.out.path2; omega)).mono ?_
  rintro e v3 ⟨rfl, bv3, h2, t2⟩
  have HW3 := Lib.hid (show RW v3 g base bv3 (pN (pN (pN (gd (cliB p.client) (some [])) 2 1) p.client 1) p.epoch 4) (((0 + 8) + 8) + 8) by rw [← (show gd (decide ((0 : Int) ≤ p.epoch ∧ p.epoch ≤ 9223372036854775807)) (pN (pN (pN (gd (cliB p.client) (some [])) 2 1) p.client 1) p.epoch 4) = (pN (pN (pN (gd (cliB p.client) (some [])) 2 1) p.client 1) p.epoch 4) from gd_all HP.out.epoch _ _)]; exact h2)
  have HT3 := Lib.hid (HT2.out.and t2)
  have BX3 := Lib.hid (BX2.out.turnW t2 HVF.out)
  have hb3 : base ≤ v3.heap.size := Nat.le_trans hb2 t2.size
  replace hlx := BX3.out.1
  clear h2 t2 c0 c2 BX2 HW2 HT2 hb2
  have c0 : v3.cell? ⟨x, 0, none⟩ = some (.int .i64 2) := by rw [← HK.out]; exact BX3.out.2 0 _ rfl
  have c3 := BX3.out.2 3 _ rfl
  go_wp2_with fail
  refine (rw_num HW3.out hb3 p.seq HP.out.seq 8 8 rfl (by decide) 0 9223372036854775807 (by have := HP.out.data; have := HP.out.path; have := HP.out.path2; omega)).mono ?_
  rintro e v4 ⟨rfl, bv4, h2, t2⟩
  have HW4 := Lib.hid (show RW v4 g base bv4 (pN (pN (pN (pN (gd (cliB p.client) (some [])) 2 1) p.client 1) p.epoch 4) p.seq 8) ((((0 + 8) + 8) + 8) + 8) by rw [← (show gd (decide ((0 : Int) ≤ p.seq ∧ p.seq ≤ 9223372036854775807)) (pN (pN (pN (pN (gd (cliB p.client) (some [])) 2 1) p.client 1) p.epoch 4) p.seq 8) = (pN (pN (pN (pN (gd (cliB p.client) (some [])) 2 1) p.client 1) p.epoch 4) p.seq 8) from gd_all HP.out.seq _ _)]; exact h2)
  have HT4 := Lib.hid (HT3.out.and t2)
  have BX4 := Lib.hid (BX3.out.turnW t2 HVF.out)
  have hb4 : base ≤ v4.heap.size := Nat.le_trans hb3 t2.size
  replace hlx := BX4.out.1
  clear h2 t2 c0 c3 BX3 HW3 HT3 hb3
  replace HW4 := Lib.hid (show RW v4 g base bv4 (headP p) 32 by have := HW4.out; rw [← HK.out] at this; exact this)
  have c0 : v4.cell? ⟨x, 0, none⟩ = some (.int .i64 2) := by rw [← HK.out]; exact BX4.out.2 0 _ rfl
  have c4 := BX4.out.2 4 _ rfl
  go_wp2_with fail
  refine (rw_num HW4.out hb4 p.op HP.out.op 1 1 rfl (by decide) 1 4 (by have := HP.out.data; have := HP.out.path; have := HP.out.path2; omega)).mono ?_
  rintro e v5 ⟨rfl, bv5, h2, t2⟩
  have HW5 := Lib.hid (show RW v5 g base bv5 (pN (gd (verbB p.op) (headP p)) p.op 1) (32 + 8) by rw [← (show gd (decide ((1 : Int) ≤ p.op ∧ p.op ≤ 4)) (pN (headP p) p.op 1) = (pN (gd (verbB p.op) (headP p)) p.op 1) from gd_num _ _ _ _ _ _ rfl)]; exact h2)
  have HT5 := Lib.hid (HT4.out.and t2)
  have BX5 := Lib.hid (BX4.out.turnW t2 HVF.out)
  have hb5 : base ≤ v5.heap.size := Nat.le_trans hb4 t2.size
  replace hlx := BX5.out.1
  clear h2 t2 c0 c4 BX4 HW4 HT4 hb4
  have c0 : v5.cell? ⟨x, 0, none⟩ = some (.int .i64 2) := by rw [← HK.out]; exact BX5.out.2 0 _ rfl
  have c19 := BX5.out.2 19 _ rfl
  go_wp2_with fail
  refine (rw_num HW5.out hb5 p.errno HP.out.errno 1 1 rfl (by decide) 0 9223372036854775807 (by have := HP.out.data; have := HP.out.path; have := HP.out.path2; omega)).mono ?_
  rintro e v6 ⟨rfl, bv6, h2, t2⟩
  have HW6 := Lib.hid (show RW v6 g base bv6 (pN (pN (gd (verbB p.op) (headP p)) p.op 1) p.errno 1) ((32 + 8) + 8) by rw [← (show gd (decide ((0 : Int) ≤ p.errno ∧ p.errno ≤ 9223372036854775807)) (pN (pN (gd (verbB p.op) (headP p)) p.op 1) p.errno 1) = (pN (pN (gd (verbB p.op) (headP p)) p.op 1) p.errno 1) from gd_all HP.out.errno _ _)]; exact h2)
  have HT6 := Lib.hid (HT5.out.and t2)
  have BX6 := Lib.hid (BX5.out.turnW t2 HVF.out)
  have hb6 : base ≤ v6.heap.size := Nat.le_trans hb5 t2.size
  replace hlx := BX6.out.1
  clear h2 t2 c0 c19 BX5 HW5 HT5 hb5
  have c0 : v6.cell? ⟨x, 0, none⟩ = some (.int .i64 2) := by rw [← HK.out]; exact BX6.out.2 0 _ rfl
  have c7 := BX6.out.2 7 _ rfl
  go_wp2_with fail
  refine (rw_text HW6.out hb6 p.data (by have := HP.out.data; omega) 2 2 rfl (by decide) 128 (by have := HP.out.data; have := HP.out.path; have := HP.out.path2; omega)).mono ?_
  rintro e v7 ⟨rfl, bv7, h2, t2⟩
  have HW7 := Lib.hid (show RW v7 g base bv7 (pT (pN (pN (gd (verbB p.op) (headP p)) p.op 1) p.errno 1) p.data 2 128) (((32 + 8) + 8) + 8 + p.data.size) from h2)
  have HT7 := Lib.hid (HT6.out.and t2)
  have BX7 := Lib.hid (BX6.out.turnW t2 HVF.out)
  have hb7 : base ≤ v7.heap.size := Nat.le_trans hb6 t2.size
  replace hlx := BX7.out.1
  clear h2 t2 c0 c7 BX6 HW6 HT6 hb6
  have c0 : v7.cell? ⟨x, 0, none⟩ = some (.int .i64 2) := by rw [← HK.out]; exact BX7.out.2 0 _ rfl
  have c8 := BX7.out.2 8 _ rfl
  go_wp2_with fail
  refine (rw_num HW7.out hb7 p.old HP.out.old 8 8 rfl (by decide) 0 9223372036854775807 (by have := HP.out.data; have := HP.out.path; have := HP.out.path2; omega)).mono ?_
  rintro e v8 ⟨rfl, bv8, h2, t2⟩
  have HW8 := Lib.hid (show RW v8 g base bv8 (pN (pT (pN (pN (gd (verbB p.op) (headP p)) p.op 1) p.errno 1) p.data 2 128) p.old 8) ((((32 + 8) + 8) + 8 + p.data.size) + 8) by rw [← (show gd (decide ((0 : Int) ≤ p.old ∧ p.old ≤ 9223372036854775807)) (pN (pT (pN (pN (gd (verbB p.op) (headP p)) p.op 1) p.errno 1) p.data 2 128) p.old 8) = (pN (pT (pN (pN (gd (verbB p.op) (headP p)) p.op 1) p.errno 1) p.data 2 128) p.old 8) from gd_all HP.out.old _ _)]; exact h2)
  have HT8 := Lib.hid (HT7.out.and t2)
  have BX8 := Lib.hid (BX7.out.turnW t2 HVF.out)
  have hb8 : base ≤ v8.heap.size := Nat.le_trans hb7 t2.size
  replace hlx := BX8.out.1
  clear h2 t2 c0 c8 BX7 HW7 HT7 hb7
  have c0 : v8.cell? ⟨x, 0, none⟩ = some (.int .i64 2) := by rw [← HK.out]; exact BX8.out.2 0 _ rfl
  have HIN := Lib.hid (show (pN (pT (pN (pN (gd (verbB p.op) (headP p)) p.op 1) p.errno 1) p.data 2 128) p.old 8) = innerP p from ((kind2 HK.out).1).symm)
  obtain ⟨oE, hoE⟩ : ∃ z, z = (pN (pT (pN (pN (gd (verbB p.op) (headP p)) p.op 1) p.errno 1) p.data 2 128) p.old 8) := ⟨_, rfl⟩
  rw [← hoE] at HW8 HIN
  clear hoE
  have HRZ := HR2.out.turnW HT8.out (fun hn q hq => VF.off (HR0.out.ne hwb hn q hq) (by obtain ⟨b, o, e, hb, -⟩ := HR0.out.2.2 hn; rw [e] at hq; injection hq with hq; subst hq; show b < base; omega))
  rw [HM.out] at HRZ
  have hcall := m_others (c := c) p HRZ (by rw [← HM.out]; exact h300)
  rw [← HM.out] at hcall
  clear HRZ
  go_upto_region 46 with (fail)
  refine wp_region_list ?_
  refine wpList_loadRow rfl 35 (.tmp 1) rfl (some 195) rfl x rfl (p.cells (.slice A m c)) _ BX8.out Try.underlying35 rfl pk_size ?_
  go_simp
  refine wpList_callC rfl (some 196) rfl 51 #[.agg (p.cells (.slice A m c)).toArray] (by first | rfl | go_simp) _ hcall (fun e w' h => ⟨_, h.1⟩) ?_
  rintro v w9 ⟨he, g9⟩
  obtain ⟨bb, hbb⟩ : ∃ z, z = decide (p = normP p) := ⟨_, rfl⟩
  rw [← hbb] at he
  obtain rfl : v = .bool bb := by injection he
  have HAN := Lib.hid (inn_bool HIN.out hbb)
  have HW9 := Lib.hid (HW8.out.keep g9)
  have HG9 := Lib.hid (show Grow w w9 from HG2.out.low ((HT8.out.low (B := w.heap.size) (fun i e => by rcases e with e | e <;> omega) HG2.out.size).trans (Below.mono g9 (by have := HT8.out.size; have := HG2.out.size; omega))))
  clear he hbb g9 hcall c0 HW8 HT8 BX8
  obtain ⟨A9, n9, c9, bs9, hbv, hown9, hn9, hl9⟩ := HW9.out.row
  subst hbv
  obtain ⟨d0, d1⟩ := HW9.out.blk.1.c2
  obtain ⟨fl, hfl⟩ : ∃ z, z = oE.isNone := ⟨_, rfl⟩
  rw [← hfl] at d1 HAN
  have HO9 := Lib.hid (show Own w9 w.heap.size A9 n9 c9 bs9 from hown9.low (by omega))
  have HL9 := Lib.hid (show ∀ l, innerP p = some l → l = bs9 from fun l hl => hl9 l (HIN.out.trans hl))
  have HN9 := Lib.hid (show n9 ≤ 1000000 by have := HP.out.data; have := HP.out.path; have := HP.out.path2; omega)
  clear hfl hown9 hn9 hl9
  cases fl with
  | true =>
    go_wp2_with fail
    go_quiet (fail)
    go_wp2_with fail
    go_ret2
    have hgq : Grow w9 (w9.drewN nq) := (Grow.refl _).drewN _
    exact ⟨⟨A9, n9, c9, bs9, by rw [HAN.out]; rfl, ⟨HO9.out.1, HO9.out.2.1, row_turnW HO9.out.2.2 (Turn.grow hgq (fun _ => False)) (fun _ _ q => q)⟩, HN9.out, HL9.out⟩, HG9.out.trans hgq⟩
  | false =>
    go_wp2_with fail
    go_quiet (fail)
    go_wp2_with fail
    go_ret2
    have hgq : Grow w9 (w9.drewN nq) := (Grow.refl _).drewN _
    exact ⟨⟨A9, n9, c9, bs9, by rw [HAN.out]; rfl, ⟨HO9.out.1, HO9.out.2.1, row_turnW HO9.out.2.2 (Turn.grow hgq (fun _ => False)) (fun _ _ q => q)⟩, HN9.out, HL9.out⟩, HG9.out.trans hgq⟩
end Go.Proofs.Ytgjcpchlijpjmaa

namespace Go.Proofs.Ytgjcpchlijpjmaa
open Go.RowKit Go.Great

set_option maxHeartbeats 16000000 in
set_option maxRecDepth 8000 in
theorem m_inner3 {w : World} {A : Option Addr} {c : Nat} (p : PK) (hp : p.ok) (hr : RS w A p.names.length p.names) (hk : p.kind = 3) :
    Calls Try.prog 27 #[.agg (p.cells (.slice A p.names.length c)).toArray] w fun e w' => InnAns w w' e p ∧ Grow w w' := by
  obtain ⟨m, hm⟩ : ∃ m, m = p.names.length := ⟨_, rfl⟩
  have HP := Lib.hid hp
  have HM := Lib.hid hm
  have HR0 := Lib.hid hr
  have h300 : m ≤ 300 := by rw [hm]; exact hp.names.1
  rw [← hm] at HR0 ⊢
  clear hm hr hp
  rw [show (p.cells (.slice A m c)).toArray = #[.int .i64 p.kind, .int .i64 p.client, .int .i64 p.epoch, .int .i64 p.seq, .int .i64 p.op, .int .i64 p.at_, .int .i64 p.n, .string p.data, .int .i64 p.old, .int .i64 p.new, .int .i64 p.ckind, .string p.path, .string p.path2, .int .i64 p.flags, .int .i64 p.cfd, .int .i64 p.coff, .int .i64 p.cn, .string p.cdata, .int .i64 p.ino, .int .i64 p.errno, .int .i64 p.rerrno, .int .i64 p.rfd, .string p.rdata, .slice A m c, .int .i64 p.ikind, .int .i64 p.ilinks, .int .i64 p.isize, .int .i64 p.wrote, .int .i64 p.nkind, .int .i64 p.nlinks, .int .i64 p.nsize, .int .i64 p.b0, .int .i64 p.b1, .int .i64 p.b2, .int .i64 p.b3, .int .i64 p.o0, .int .i64 p.o1, .int .i64 p.o2, .int .i64 p.o3, .int .i64 p.o4, .int .i64 p.o5, .int .i64 p.o6, .int .i64 p.o7] from rfl]
  obtain ⟨kd, hkd⟩ : ∃ z, z = p.kind := ⟨_, rfl⟩
  have HKD := Lib.hid hkd
  have HK := Lib.hid hk
  clear hk hkd
  go_enter Try.func27, Try.ntmps27
  go_upto_region 1 with (fail)
  have hb := Blk.new w 35 (p.cells (.slice A m c)) #[.int .i64 p.kind, .int .i64 p.client, .int .i64 p.epoch, .int .i64 p.seq, .int .i64 p.op, .int .i64 p.at_, .int .i64 p.n, .string p.data, .int .i64 p.old, .int .i64 p.new, .int .i64 p.ckind, .string p.path, .string p.path2, .int .i64 p.flags, .int .i64 p.cfd, .int .i64 p.coff, .int .i64 p.cn, .string p.cdata, .int .i64 p.ino, .int .i64 p.errno, .int .i64 p.rerrno, .int .i64 p.rfd, .string p.rdata, .slice A m c, .int .i64 p.ikind, .int .i64 p.ilinks, .int .i64 p.isize, .int .i64 p.wrote, .int .i64 p.nkind, .int .i64 p.nlinks, .int .i64 p.nsize, .int .i64 p.b0, .int .i64 p.b1, .int .i64 p.b2, .int .i64 p.b3, .int .i64 p.o0, .int .i64 p.o1, .int .i64 p.o2, .int .i64 p.o3, .int .i64 p.o4, .int .i64 p.o5, .int .i64 p.o6, .int .i64 p.o7] (0, 0) rfl
  have ga := (Grow.refl w).alloc (.cells #[.int .i64 p.kind, .int .i64 p.client, .int .i64 p.epoch, .int .i64 p.seq, .int .i64 p.op, .int .i64 p.at_, .int .i64 p.n, .string p.data, .int .i64 p.old, .int .i64 p.new, .int .i64 p.ckind, .string p.path, .string p.path2, .int .i64 p.flags, .int .i64 p.cfd, .int .i64 p.coff, .int .i64 p.cn, .string p.cdata, .int .i64 p.ino, .int .i64 p.errno, .int .i64 p.rerrno, .int .i64 p.rfd, .string p.rdata, .slice A m c, .int .i64 p.ikind, .int .i64 p.ilinks, .int .i64 p.isize, .int .i64 p.wrote, .int .i64 p.nkind, .int .i64 p.nlinks, .int .i64 p.nsize, .int .i64 p.b0, .int .i64 p.b1, .int .i64 p.b2, .int .i64 p.b3, .int .i64 p.o0, .int .i64 p.o1, .int .i64 p.o2, .int .i64 p.o3, .int .i64 p.o4, .int .i64 p.o5, .int .i64 p.o6, .int .i64 p.o7] 35)
  obtain ⟨w1, hw1⟩ : ∃ z, z = w.alloc (.cells #[.int .i64 p.kind, .int .i64 p.client, .int .i64 p.epoch, .int .i64 p.seq, .int .i64 p.op, .int .i64 p.at_, .int .i64 p.n, .string p.data, .int .i64 p.old, .int .i64 p.new, .int .i64 p.ckind, .string p.path, .string p.path2, .int .i64 p.flags, .int .i64 p.cfd, .int .i64 p.coff, .int .i64 p.cn, .string p.cdata, .int .i64 p.ino, .int .i64 p.errno, .int .i64 p.rerrno, .int .i64 p.rfd, .string p.rdata, .slice A m c, .int .i64 p.ikind, .int .i64 p.ilinks, .int .i64 p.isize, .int .i64 p.wrote, .int .i64 p.nkind, .int .i64 p.nlinks, .int .i64 p.nsize, .int .i64 p.b0, .int .i64 p.b1, .int .i64 p.b2, .int .i64 p.b3, .int .i64 p.o0, .int .i64 p.o1, .int .i64 p.o2, .int .i64 p.o3, .int .i64 p.o4, .int .i64 p.o5, .int .i64 p.o6, .int .i64 p.o7] 35) := ⟨_, rfl⟩
  obtain ⟨x, hx⟩ : ∃ z, z = w.heap.size := ⟨_, rfl⟩
  rw [← hw1] at hb ga ⊢
  rw [← hx] at hb ⊢
  obtain ⟨P0, hP0⟩ : ∃ z, z = Value.agg #[.int .i64 p.kind, .int .i64 p.client, .int .i64 p.epoch, .int .i64 p.seq, .int .i64 p.op, .int .i64 p.at_, .int .i64 p.n, .string p.data, .int .i64 p.old, .int .i64 p.new, .int .i64 p.ckind, .string p.path, .string p.path2, .int .i64 p.flags, .int .i64 p.cfd, .int .i64 p.coff, .int .i64 p.cn, .string p.cdata, .int .i64 p.ino, .int .i64 p.errno, .int .i64 p.rerrno, .int .i64 p.rfd, .string p.rdata, .slice A m c, .int .i64 p.ikind, .int .i64 p.ilinks, .int .i64 p.isize, .int .i64 p.wrote, .int .i64 p.nkind, .int .i64 p.nlinks, .int .i64 p.nsize, .int .i64 p.b0, .int .i64 p.b1, .int .i64 p.b2, .int .i64 p.b3, .int .i64 p.o0, .int .i64 p.o1, .int .i64 p.o2, .int .i64 p.o3, .int .i64 p.o4, .int .i64 p.o5, .int .i64 p.o6, .int .i64 p.o7] := ⟨_, rfl⟩
  rw [← hP0]
  have BX1 := Lib.hid hb
  have HG1 := Lib.hid ga
  have HX := Lib.hid hx
  have HR1 := Lib.hid (HR0.out.grow ga)
  clear hw1 hb ga hx hP0
  go_upto_region 2 with (fail)
  have hrow := Row.new w1 84 [.slice none 0 0, .bool false] _ rfl
  have ga := (Grow.refl w1).alloc (.cells #[.slice none 0 0, .bool false] 84)
  have hsz : (w1.alloc (.cells #[.slice none 0 0, .bool false] 84)).heap.size = w1.heap.size + 1 := by simp
  obtain ⟨w2, hw2⟩ : ∃ z, z = w1.alloc (.cells #[.slice none 0 0, .bool false] 84) := ⟨_, rfl⟩
  obtain ⟨g, hg⟩ : ∃ z, z = w1.heap.size := ⟨_, rfl⟩
  rw [← hw2] at hrow ga hsz ⊢
  rw [← hg] at hrow hsz ⊢
  obtain ⟨base, hbs⟩ : ∃ z, z = w2.heap.size := ⟨_, rfl⟩
  have hxl := BX1.out.1
  have hxg : ¬ x = g := by omega
  have hgb : g < base := by omega
  have hxb : x < base := by omega
  have hwb : w.heap.size ≤ g := by have := HX.out; omega
  have HW0 := Lib.hid (show RW w2 g base (.slice none 0 0) (some []) 0 from ⟨hrow, hgb, none, 0, 0, [], rfl, Own.nil _ _, Nat.le_refl _, fun l hl => by injection hl with hl; exact hl.symm⟩)
  have BX0 := Lib.hid (BX1.out.keep ga)
  have HG2 := Lib.hid (HG1.out.trans ga)
  have HT0 := Lib.hid (Turn.refl (VF g base) w2)
  have HR2 := Lib.hid (HR1.out.grow ga)
  have hb0 : base ≤ w2.heap.size := by omega
  have HVF := Lib.hid (show ¬ VF g base x from VF.off hxg hxb)
  have hlx := BX0.out.1
  clear hw2 hrow ga hg hsz hbs HR1 HG1 BX1
  have c0 : w2.cell? ⟨x, 0, none⟩ = some (.int .i64 3) := by rw [← HK.out]; exact BX0.out.2 0 _ rfl
  go_wp2_with fail
  refine (rw_num HW0.out hb0 (3 : Int) ⟨by decide, by decide⟩ 1 1 rfl (by decide) 1 5 (by have := HP.out.data; have := HP.out.path; have := HP.out.path2; omega)).mono ?_
  rintro e v1 ⟨rfl, bv1, h2, t2⟩
  have HW1 := Lib.hid (show RW v1 g base bv1 (pN (some []) 3 1) (0 + 8) by rw [← (show gd (decide ((1 : Int) ≤ 3 ∧ (3 : Int) ≤ 5)) (pN (some []) 3 1) = (pN (some []) 3 1) from rfl)]; exact h2)
  have HT1 := Lib.hid (HT0.out.and t2)
  have BX1 := Lib.hid (BX0.out.turnW t2 HVF.out)
  have hb1 : base ≤ v1.heap.size := Nat.le_trans hb0 t2.size
  replace hlx := BX1.out.1
  clear h2 t2 c0 BX0 HW0 HT0 hb0
  have c0 : v1.cell? ⟨x, 0, none⟩ = some (.int .i64 3) := by rw [← HK.out]; exact BX1.out.2 0 _ rfl
  have c1 := BX1.out.2 1 _ rfl
  go_wp2_with fail
  refine (rw_num HW1.out hb1 p.client HP.out.client 1 1 rfl (by decide) 1 8 (by have := HP.out.data; have := HP.out.path; have := HP.out.path2; omega)).mono ?_
  rintro e v2 ⟨rfl, bv2, h2, t2⟩
  have HW2 := Lib.hid (show RW v2 g base bv2 (pN (pN (gd (cliB p.client) (some [])) 3 1) p.client 1) ((0 + 8) + 8) by rw [← (show gd (decide ((1 : Int) ≤ p.client ∧ p.client ≤ 8)) (pN (pN (some []) 3 1) p.client 1) = (pN (pN (gd (cliB p.client) (some [])) 3 1) p.client 1) from by rw [gd_pN, gd_pN]; rfl)]; exact h2)
  have HT2 := Lib.hid (HT1.out.and t2)
  have BX2 := Lib.hid (BX1.out.turnW t2 HVF.out)
  have hb2 : base ≤ v2.heap.size := Nat.le_trans hb1 t2.size
  replace hlx := BX2.out.1
  clear h2 t2 c0 c1 BX1 HW1 HT1 hb1
  have c0 : v2.cell? ⟨x, 0, none⟩ = some (.int .i64 3) := by rw [← HK.out]; exact BX2.out.2 0 _ rfl
  have c2 := BX2.out.2 2 _ rfl
  go_wp2_with fail
  refine (rw_num HW2.out hb2 p.epoch HP.out.epoch 4 4 rfl (by decide) 0 9223372036854775807 (by have := HP.out.data; have := HP.out.path; have := HP.out.path2; omega)).mono ?_
  rintro e v3 ⟨rfl, bv3, h2, t2⟩
  have HW3 := Lib.hid (show RW v3 g base bv3 (pN (pN (pN (gd (cliB p.client) (some [])) 3 1) p.client 1) p.epoch 4) (((0 + 8) + 8) + 8) by rw [← (show gd (decide ((0 : Int) ≤ p.epoch ∧ p.epoch ≤ 9223372036854775807)) (pN (pN (pN (gd (cliB p.client) (some [])) 3 1) p.client 1) p.epoch 4) = (pN (pN (pN (gd (cliB p.client) (some [])) 3 1) p.client 1) p.epoch 4) from gd_all HP.out.epoch _ _)]; exact h2)
  have HT3 := Lib.hid (HT2.out.and t2)
  have BX3 := Lib.hid (BX2.out.turnW t2 HVF.out)
  have hb3 : base ≤ v3.heap.size := Nat.le_trans hb2 t2.size
  replace hlx := BX3.out.1
  clear h2 t2 c0 c2 BX2 HW2 HT2 hb2
  have c0 : v3.cell? ⟨x, 0, none⟩ = some (.int .i64 3) := by rw [← HK.out]; exact BX3.out.2 0 _ rfl
  have c3 := BX3.out.2 3 _ rfl
  go_wp2_with fail
  refine (rw_num HW3.out hb3 p.seq HP.out.seq 8 8 rfl (by decide) 0 9223372036854775807 (by have := HP.out.data; have := HP.out.path; have := HP.out.path2; omega)).mono ?_
  rintro e v4 ⟨rfl, bv4, h2, t2⟩
  have HW4 := Lib.hid (show RW v4 g base bv4 (pN (pN (pN (pN (gd (cliB p.client) (some [])) 3 1) p.client 1) p.epoch 4) p.seq 8) ((((0 + 8) + 8) + 8) + 8) by rw [← (show gd (decide ((0 : Int) ≤ p.seq ∧ p.seq ≤ 9223372036854775807)) (pN (pN (pN (pN (gd (cliB p.client) (some [])) 3 1) p.client 1) p.epoch 4) p.seq 8) = (pN (pN (pN (pN (gd (cliB p.client) (some [])) 3 1) p.client 1) p.epoch 4) p.seq 8) from gd_all HP.out.seq _ _)]; exact h2)
  have HT4 := Lib.hid (HT3.out.and t2)
  have BX4 := Lib.hid (BX3.out.turnW t2 HVF.out)
  have hb4 : base ≤ v4.heap.size := Nat.le_trans hb3 t2.size
  replace hlx := BX4.out.1
  clear h2 t2 c0 c3 BX3 HW3 HT3 hb3
  replace HW4 := Lib.hid (show RW v4 g base bv4 (headP p) 32 by have := HW4.out; rw [← HK.out] at this; exact this)
  have c0 : v4.cell? ⟨x, 0, none⟩ = some (.int .i64 3) := by rw [← HK.out]; exact BX4.out.2 0 _ rfl
  have c4 := BX4.out.2 4 _ rfl
  go_wp2_with fail
  refine (rw_num HW4.out hb4 p.op HP.out.op 1 1 rfl (by decide) 0 9223372036854775807 (by have := HP.out.data; have := HP.out.path; have := HP.out.path2; omega)).mono ?_
  rintro e v5 ⟨rfl, bv5, h2, t2⟩
  have HW5 := Lib.hid (show RW v5 g base bv5 (pN (headP p) p.op 1) (32 + 8) by rw [← (show gd (decide ((0 : Int) ≤ p.op ∧ p.op ≤ 9223372036854775807)) (pN (headP p) p.op 1) = (pN (headP p) p.op 1) from gd_all HP.out.op _ _)]; exact h2)
  have HT5 := Lib.hid (HT4.out.and t2)
  have BX5 := Lib.hid (BX4.out.turnW t2 HVF.out)
  have hb5 : base ≤ v5.heap.size := Nat.le_trans hb4 t2.size
  replace hlx := BX5.out.1
  clear h2 t2 c0 c4 BX4 HW4 HT4 hb4
  have c0 : v5.cell? ⟨x, 0, none⟩ = some (.int .i64 3) := by rw [← HK.out]; exact BX5.out.2 0 _ rfl
  have c18 := BX5.out.2 18 _ rfl
  go_wp2_with fail
  refine (rw_num HW5.out hb5 p.ino HP.out.ino 1 1 rfl (by decide) 0 9223372036854775807 (by have := HP.out.data; have := HP.out.path; have := HP.out.path2; omega)).mono ?_
  rintro e v6 ⟨rfl, bv6, h2, t2⟩
  have HW6 := Lib.hid (show RW v6 g base bv6 (pN (pN (headP p) p.op 1) p.ino 1) ((32 + 8) + 8) by rw [← (show gd (decide ((0 : Int) ≤ p.ino ∧ p.ino ≤ 9223372036854775807)) (pN (pN (headP p) p.op 1) p.ino 1) = (pN (pN (headP p) p.op 1) p.ino 1) from gd_all HP.out.ino _ _)]; exact h2)
  have HT6 := Lib.hid (HT5.out.and t2)
  have BX6 := Lib.hid (BX5.out.turnW t2 HVF.out)
  have hb6 : base ≤ v6.heap.size := Nat.le_trans hb5 t2.size
  replace hlx := BX6.out.1
  clear h2 t2 c0 c18 BX5 HW5 HT5 hb5
  have c0 : v6.cell? ⟨x, 0, none⟩ = some (.int .i64 3) := by rw [← HK.out]; exact BX6.out.2 0 _ rfl
  have c11 := BX6.out.2 11 _ rfl
  go_wp2_with fail
  refine (rw_text HW6.out hb6 p.path (by have := HP.out.path; omega) 1 1 rfl (by decide) 100 (by have := HP.out.data; have := HP.out.path; have := HP.out.path2; omega)).mono ?_
  rintro e v7 ⟨rfl, bv7, h2, t2⟩
  have HW7 := Lib.hid (show RW v7 g base bv7 (pT (pN (pN (headP p) p.op 1) p.ino 1) p.path 1 100) (((32 + 8) + 8) + 8 + p.path.size) from h2)
  have HT7 := Lib.hid (HT6.out.and t2)
  have BX7 := Lib.hid (BX6.out.turnW t2 HVF.out)
  have hb7 : base ≤ v7.heap.size := Nat.le_trans hb6 t2.size
  replace hlx := BX7.out.1
  clear h2 t2 c0 c11 BX6 HW6 HT6 hb6
  have c0 : v7.cell? ⟨x, 0, none⟩ = some (.int .i64 3) := by rw [← HK.out]; exact BX7.out.2 0 _ rfl
  have c12 := BX7.out.2 12 _ rfl
  go_wp2_with fail
  refine (rw_text HW7.out hb7 p.path2 (by have := HP.out.path2; omega) 1 1 rfl (by decide) 100 (by have := HP.out.data; have := HP.out.path; have := HP.out.path2; omega)).mono ?_
  rintro e v8 ⟨rfl, bv8, h2, t2⟩
  have HW8 := Lib.hid (show RW v8 g base bv8 (pT (pT (pN (pN (headP p) p.op 1) p.ino 1) p.path 1 100) p.path2 1 100) ((((32 + 8) + 8) + 8 + p.path.size) + 8 + p.path2.size) from h2)
  have HT8 := Lib.hid (HT7.out.and t2)
  have BX8 := Lib.hid (BX7.out.turnW t2 HVF.out)
  have hb8 : base ≤ v8.heap.size := Nat.le_trans hb7 t2.size
  replace hlx := BX8.out.1
  clear h2 t2 c0 c12 BX7 HW7 HT7 hb7
  have c0 : v8.cell? ⟨x, 0, none⟩ = some (.int .i64 3) := by rw [← HK.out]; exact BX8.out.2 0 _ rfl
  have c13 := BX8.out.2 13 _ rfl
  go_wp2_with fail
  refine (rw_num HW8.out hb8 p.flags HP.out.flags 1 1 rfl (by decide) 0 9223372036854775807 (by have := HP.out.data; have := HP.out.path; have := HP.out.path2; omega)).mono ?_
  rintro e v9 ⟨rfl, bv9, h2, t2⟩
  have HW9 := Lib.hid (show RW v9 g base bv9 (pN (pT (pT (pN (pN (headP p) p.op 1) p.ino 1) p.path 1 100) p.path2 1 100) p.flags 1) (((((32 + 8) + 8) + 8 + p.path.size) + 8 + p.path2.size) + 8) by rw [← (show gd (decide ((0 : Int) ≤ p.flags ∧ p.flags ≤ 9223372036854775807)) (pN (pT (pT (pN (pN (headP p) p.op 1) p.ino 1) p.path 1 100) p.path2 1 100) p.flags 1) = (pN (pT (pT (pN (pN (headP p) p.op 1) p.ino 1) p.path 1 100) p.path2 1 100) p.flags 1) from gd_all HP.out.flags _ _)]; exact h2)
  have HT9 := Lib.hid (HT8.out.and t2)
  have BX9 := Lib.hid (BX8.out.turnW t2 HVF.out)
  have hb9 : base ≤ v9.heap.size := Nat.le_trans hb8 t2.size
  replace hlx := BX9.out.1
  clear h2 t2 c0 c13 BX8 HW8 HT8 hb8
  have c0 : v9.cell? ⟨x, 0, none⟩ = some (.int .i64 3) := by rw [← HK.out]; exact BX9.out.2 0 _ rfl
  have c16 := BX9.out.2 16 _ rfl
  go_wp2_with fail
  refine (rw_num HW9.out hb9 p.cn HP.out.cn 4 4 rfl (by decide) 0 9223372036854775807 (by have := HP.out.data; have := HP.out.path; have := HP.out.path2; omega)).mono ?_
  rintro e v10 ⟨rfl, bv10, h2, t2⟩
  have HW10 := Lib.hid (show RW v10 g base bv10 (pN (pN (pT (pT (pN (pN (headP p) p.op 1) p.ino 1) p.path 1 100) p.path2 1 100) p.flags 1) p.cn 4) ((((((32 + 8) + 8) + 8 + p.path.size) + 8 + p.path2.size) + 8) + 8) by rw [← (show gd (decide ((0 : Int) ≤ p.cn ∧ p.cn ≤ 9223372036854775807)) (pN (pN (pT (pT (pN (pN (headP p) p.op 1) p.ino 1) p.path 1 100) p.path2 1 100) p.flags 1) p.cn 4) = (pN (pN (pT (pT (pN (pN (headP p) p.op 1) p.ino 1) p.path 1 100) p.path2 1 100) p.flags 1) p.cn 4) from gd_all HP.out.cn _ _)]; exact h2)
  have HT10 := Lib.hid (HT9.out.and t2)
  have BX10 := Lib.hid (BX9.out.turnW t2 HVF.out)
  have hb10 : base ≤ v10.heap.size := Nat.le_trans hb9 t2.size
  replace hlx := BX10.out.1
  clear h2 t2 c0 c16 BX9 HW9 HT9 hb9
  have c0 : v10.cell? ⟨x, 0, none⟩ = some (.int .i64 3) := by rw [← HK.out]; exact BX10.out.2 0 _ rfl
  have HIN := Lib.hid (show (pN (pN (pT (pT (pN (pN (headP p) p.op 1) p.ino 1) p.path 1 100) p.path2 1 100) p.flags 1) p.cn 4) = innerP p from ((kind3 HK.out).1).symm)
  obtain ⟨oE, hoE⟩ : ∃ z, z = (pN (pN (pT (pT (pN (pN (headP p) p.op 1) p.ino 1) p.path 1 100) p.path2 1 100) p.flags 1) p.cn 4) := ⟨_, rfl⟩
  rw [← hoE] at HW10 HIN
  clear hoE
  have HRZ := HR2.out.turnW HT10.out (fun hn q hq => VF.off (HR0.out.ne hwb hn q hq) (by obtain ⟨b, o, e, hb, -⟩ := HR0.out.2.2 hn; rw [e] at hq; injection hq with hq; subst hq; show b < base; omega))
  rw [HM.out] at HRZ
  have hcall := m_others (c := c) p HRZ (by rw [← HM.out]; exact h300)
  rw [← HM.out] at hcall
  clear HRZ
  go_upto_region 46 with (fail)
  refine wp_region_list ?_
  refine wpList_loadRow rfl 35 (.tmp 1) rfl (some 195) rfl x rfl (p.cells (.slice A m c)) _ BX10.out Try.underlying35 rfl pk_size ?_
  go_simp
  refine wpList_callC rfl (some 196) rfl 51 #[.agg (p.cells (.slice A m c)).toArray] (by first | rfl | go_simp) _ hcall (fun e w' h => ⟨_, h.1⟩) ?_
  rintro v w9 ⟨he, g9⟩
  obtain ⟨bb, hbb⟩ : ∃ z, z = decide (p = normP p) := ⟨_, rfl⟩
  rw [← hbb] at he
  obtain rfl : v = .bool bb := by injection he
  have HAN := Lib.hid (inn_bool HIN.out hbb)
  have HW9 := Lib.hid (HW10.out.keep g9)
  have HG9 := Lib.hid (show Grow w w9 from HG2.out.low ((HT10.out.low (B := w.heap.size) (fun i e => by rcases e with e | e <;> omega) HG2.out.size).trans (Below.mono g9 (by have := HT10.out.size; have := HG2.out.size; omega))))
  clear he hbb g9 hcall c0 HW10 HT10 BX10
  obtain ⟨A9, n9, c9, bs9, hbv, hown9, hn9, hl9⟩ := HW9.out.row
  subst hbv
  obtain ⟨d0, d1⟩ := HW9.out.blk.1.c2
  obtain ⟨fl, hfl⟩ : ∃ z, z = oE.isNone := ⟨_, rfl⟩
  rw [← hfl] at d1 HAN
  have HO9 := Lib.hid (show Own w9 w.heap.size A9 n9 c9 bs9 from hown9.low (by omega))
  have HL9 := Lib.hid (show ∀ l, innerP p = some l → l = bs9 from fun l hl => hl9 l (HIN.out.trans hl))
  have HN9 := Lib.hid (show n9 ≤ 1000000 by have := HP.out.data; have := HP.out.path; have := HP.out.path2; omega)
  clear hfl hown9 hn9 hl9
  cases fl with
  | true =>
    go_wp2_with fail
    go_quiet (fail)
    go_wp2_with fail
    go_ret2
    have hgq : Grow w9 (w9.drewN nq) := (Grow.refl _).drewN _
    exact ⟨⟨A9, n9, c9, bs9, by rw [HAN.out]; rfl, ⟨HO9.out.1, HO9.out.2.1, row_turnW HO9.out.2.2 (Turn.grow hgq (fun _ => False)) (fun _ _ q => q)⟩, HN9.out, HL9.out⟩, HG9.out.trans hgq⟩
  | false =>
    go_wp2_with fail
    go_quiet (fail)
    go_wp2_with fail
    go_ret2
    have hgq : Grow w9 (w9.drewN nq) := (Grow.refl _).drewN _
    exact ⟨⟨A9, n9, c9, bs9, by rw [HAN.out]; rfl, ⟨HO9.out.1, HO9.out.2.1, row_turnW HO9.out.2.2 (Turn.grow hgq (fun _ => False)) (fun _ _ q => q)⟩, HN9.out, HL9.out⟩, HG9.out.trans hgq⟩
end Go.Proofs.Ytgjcpchlijpjmaa
