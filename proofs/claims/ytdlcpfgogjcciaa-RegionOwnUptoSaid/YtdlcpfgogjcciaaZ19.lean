/- The document's Inner at kind 1. The document's Inner at kind 2. The document's Inner at kind 3. The document's Inner at kind 4. No statement of the seat is proved here. -/
import Derived.Test.YtdlcpfgogjcciaaZ18
namespace Go.Proofs.Ytdlcpfgogjcciaa
open Go.RowKit Go.Great

set_option maxHeartbeats 16000000 in
set_option maxRecDepth 8000 in
theorem m_inner1 {w : World} {A : Option Addr} {c : Nat} (p : PK) (hp : p.ok) (hr : RS w A p.names.length p.names) (hk : p.kind = 1) :
    Calls Try.prog 63 #[.agg (p.cells (.slice A p.names.length c)).toArray] w fun e w' => InnAns w w' e p ∧ Grow w w' := by
  obtain ⟨m, hm⟩ : ∃ m, m = p.names.length := ⟨_, rfl⟩
  have HP := Lib.hid hp
  have HM := Lib.hid hm
  have HR0 := Lib.hid hr
  have h300 : m ≤ 1048576 := by rw [hm]; exact hp.names.1
  rw [← hm] at HR0 ⊢
  clear hm hr hp
  rw [show (p.cells (.slice A m c)).toArray = #[.int .i64 p.kind, .int .i64 p.client, .int .i64 p.epoch, .int .i64 p.seq, .int .i64 p.op, .int .i64 p.at_, .int .i64 p.n, .string p.data, .int .i64 p.old, .int .i64 p.new, .int .i64 p.ckind, .string p.path, .string p.path2, .int .i64 p.flags, .int .i64 p.cfd, .int .i64 p.coff, .int .i64 p.cn, .string p.cdata, .int .i64 p.ino, .int .i64 p.errno, .int .i64 p.rerrno, .int .i64 p.rfd, .string p.rdata, .slice A m c, .int .i64 p.ikind, .int .i64 p.ilinks, .int .i64 p.isize, .int .i64 p.wrote, .int .i64 p.nkind, .int .i64 p.nlinks, .int .i64 p.nsize, .int .i64 p.b0, .int .i64 p.b1, .int .i64 p.b2, .int .i64 p.b3, .int .i64 p.o0, .int .i64 p.o1, .int .i64 p.o2, .int .i64 p.o3, .int .i64 p.o4, .int .i64 p.o5, .int .i64 p.o6, .int .i64 p.o7] from rfl]
  obtain ⟨kd, hkd⟩ : ∃ z, z = p.kind := ⟨_, rfl⟩
  have HKD := Lib.hid hkd
  have HK := Lib.hid hk
  clear hk hkd
  go_enter Try.func63, Try.ntmps63
  go_upto_region 1 with (fail)
  have hb := Blk.new w 36 (p.cells (.slice A m c)) #[.int .i64 p.kind, .int .i64 p.client, .int .i64 p.epoch, .int .i64 p.seq, .int .i64 p.op, .int .i64 p.at_, .int .i64 p.n, .string p.data, .int .i64 p.old, .int .i64 p.new, .int .i64 p.ckind, .string p.path, .string p.path2, .int .i64 p.flags, .int .i64 p.cfd, .int .i64 p.coff, .int .i64 p.cn, .string p.cdata, .int .i64 p.ino, .int .i64 p.errno, .int .i64 p.rerrno, .int .i64 p.rfd, .string p.rdata, .slice A m c, .int .i64 p.ikind, .int .i64 p.ilinks, .int .i64 p.isize, .int .i64 p.wrote, .int .i64 p.nkind, .int .i64 p.nlinks, .int .i64 p.nsize, .int .i64 p.b0, .int .i64 p.b1, .int .i64 p.b2, .int .i64 p.b3, .int .i64 p.o0, .int .i64 p.o1, .int .i64 p.o2, .int .i64 p.o3, .int .i64 p.o4, .int .i64 p.o5, .int .i64 p.o6, .int .i64 p.o7] (0, 0) rfl
  have ga := (Grow.refl w).alloc (.cells #[.int .i64 p.kind, .int .i64 p.client, .int .i64 p.epoch, .int .i64 p.seq, .int .i64 p.op, .int .i64 p.at_, .int .i64 p.n, .string p.data, .int .i64 p.old, .int .i64 p.new, .int .i64 p.ckind, .string p.path, .string p.path2, .int .i64 p.flags, .int .i64 p.cfd, .int .i64 p.coff, .int .i64 p.cn, .string p.cdata, .int .i64 p.ino, .int .i64 p.errno, .int .i64 p.rerrno, .int .i64 p.rfd, .string p.rdata, .slice A m c, .int .i64 p.ikind, .int .i64 p.ilinks, .int .i64 p.isize, .int .i64 p.wrote, .int .i64 p.nkind, .int .i64 p.nlinks, .int .i64 p.nsize, .int .i64 p.b0, .int .i64 p.b1, .int .i64 p.b2, .int .i64 p.b3, .int .i64 p.o0, .int .i64 p.o1, .int .i64 p.o2, .int .i64 p.o3, .int .i64 p.o4, .int .i64 p.o5, .int .i64 p.o6, .int .i64 p.o7] 36)
  obtain ⟨w1, hw1⟩ : ∃ z, z = w.alloc (.cells #[.int .i64 p.kind, .int .i64 p.client, .int .i64 p.epoch, .int .i64 p.seq, .int .i64 p.op, .int .i64 p.at_, .int .i64 p.n, .string p.data, .int .i64 p.old, .int .i64 p.new, .int .i64 p.ckind, .string p.path, .string p.path2, .int .i64 p.flags, .int .i64 p.cfd, .int .i64 p.coff, .int .i64 p.cn, .string p.cdata, .int .i64 p.ino, .int .i64 p.errno, .int .i64 p.rerrno, .int .i64 p.rfd, .string p.rdata, .slice A m c, .int .i64 p.ikind, .int .i64 p.ilinks, .int .i64 p.isize, .int .i64 p.wrote, .int .i64 p.nkind, .int .i64 p.nlinks, .int .i64 p.nsize, .int .i64 p.b0, .int .i64 p.b1, .int .i64 p.b2, .int .i64 p.b3, .int .i64 p.o0, .int .i64 p.o1, .int .i64 p.o2, .int .i64 p.o3, .int .i64 p.o4, .int .i64 p.o5, .int .i64 p.o6, .int .i64 p.o7] 36) := ⟨_, rfl⟩
  obtain ⟨x, hx⟩ : ∃ z, z = w.heap.size := ⟨_, rfl⟩
  rw [← hw1] at hb ga ⊢
  rw [← hx] at hb ⊢
  obtain ⟨P0, hP0⟩ : ∃ z, z = Value.agg #[.int .i64 p.kind, .int .i64 p.client, .int .i64 p.epoch, .int .i64 p.seq, .int .i64 p.op, .int .i64 p.at_, .int .i64 p.n, .string p.data, .int .i64 p.old, .int .i64 p.new, .int .i64 p.ckind, .string p.path, .string p.path2, .int .i64 p.flags, .int .i64 p.cfd, .int .i64 p.coff, .int .i64 p.cn, .string p.cdata, .int .i64 p.ino, .int .i64 p.errno, .int .i64 p.rerrno, .int .i64 p.rfd, .string p.rdata, .slice A m c, .int .i64 p.ikind, .int .i64 p.ilinks, .int .i64 p.isize, .int .i64 p.wrote, .int .i64 p.nkind, .int .i64 p.nlinks, .int .i64 p.nsize, .int .i64 p.b0, .int .i64 p.b1, .int .i64 p.b2, .int .i64 p.b3, .int .i64 p.o0, .int .i64 p.o1, .int .i64 p.o2, .int .i64 p.o3, .int .i64 p.o4, .int .i64 p.o5, .int .i64 p.o6, .int .i64 p.o7] := ⟨_, rfl⟩
  rw [← hP0]
  have BX1 := Lib.hid hb
  have HG1 := Lib.hid ga
  have HX := Lib.hid hx
  have HR1 := Lib.hid (HR0.out.grow ga)
  clear hw1 hb ga hx hP0
  go_upto_region 2 with (fail)
  have hrow := Row.new w1 142 [.slice none 0 0, .bool false] _ rfl
  have ga := (Grow.refl w1).alloc (.cells #[.slice none 0 0, .bool false] 142)
  have hsz : (w1.alloc (.cells #[.slice none 0 0, .bool false] 142)).heap.size = w1.heap.size + 1 := by simp
  obtain ⟨w2, hw2⟩ : ∃ z, z = w1.alloc (.cells #[.slice none 0 0, .bool false] 142) := ⟨_, rfl⟩
  obtain ⟨g, hg⟩ : ∃ z, z = w1.heap.size := ⟨_, rfl⟩
  rw [← hw2] at hrow ga hsz ⊢
  rw [← hg] at hrow hsz ⊢
  obtain ⟨base, hbs⟩ : ∃ z, z = w2.heap.size := ⟨_, rfl⟩
  have hxl := BX1.out.1
  have hxg : ¬ x = g := by omega
  have hgb : g < base := by omega
  have hxb : x < base := by omega
  have hwb : w.heap.size ≤ g := by have := HX.out; omega
  have HW0 := Lib.hid (show RW w2 g base (.slice none 0 0) (some []) 0 from ⟨hrow, hgb, none, 0, 0, [], rfl, Own.nil _ _, Nat.le_refl _, fun l hl => by injection hl with hl; exact hl.symm⟩)
  have BX0 := Lib.hid (BX1.out.keep ga)
  have HG2 := Lib.hid (HG1.out.trans ga)
  have HT0 := Lib.hid (Turn.refl (VF g base) w2)
  have HR2 := Lib.hid (HR1.out.grow ga)
  have hb0 : base ≤ w2.heap.size := by omega
  have HVF := Lib.hid (show ¬ VF g base x from VF.off hxg hxb)
  have hlx := BX0.out.1
  clear hw2 hrow ga hg hsz hbs HR1 HG1 BX1
  have c0 : w2.cell? ⟨x, 0, none⟩ = some (.int .i64 1) := by rw [← HK.out]; exact BX0.out.2 0 _ rfl
  go_wp2_with fail
  refine (rw_num HW0.out hb0 (1 : Int) ⟨by decide, by decide⟩ 1 1 rfl (by decide) 1 5 (by have := HP.out.data; have := HP.out.path; have := HP.out.path2; omega)).mono ?_
  rintro e v1 ⟨rfl, bv1, h2, t2⟩
  have HW1 := Lib.hid (show RW v1 g base bv1 (pN (some []) 1 1) (0 + 8) by rw [← (show gd (decide ((1 : Int) ≤ 1 ∧ (1 : Int) ≤ 5)) (pN (some []) 1 1) = (pN (some []) 1 1) from rfl)]; exact h2)
  have HT1 := Lib.hid (HT0.out.and t2)
  have BX1 := Lib.hid (BX0.out.turnW t2 HVF.out)
  have hb1 : base ≤ v1.heap.size := Nat.le_trans hb0 t2.size
  replace hlx := BX1.out.1
  clear h2 t2 c0 BX0 HW0 HT0 hb0
  have c0 : v1.cell? ⟨x, 0, none⟩ = some (.int .i64 1) := by rw [← HK.out]; exact BX1.out.2 0 _ rfl
  have c1 := BX1.out.2 1 _ rfl
  go_wp2_with fail
  refine (rw_num HW1.out hb1 p.client HP.out.client 1 1 rfl (by decide) 1 8 (by have := HP.out.data; have := HP.out.path; have := HP.out.path2; omega)).mono ?_
  rintro e v2 ⟨rfl, bv2, h2, t2⟩
  have HW2 := Lib.hid (show RW v2 g base bv2 (pN (pN (gd (cliB p.client) (some [])) 1 1) p.client 1) ((0 + 8) + 8) by rw [← (show gd (decide ((1 : Int) ≤ p.client ∧ p.client ≤ 8)) (pN (pN (some []) 1 1) p.client 1) = (pN (pN (gd (cliB p.client) (some [])) 1 1) p.client 1) from by rw [gd_pN, gd_pN]; rfl)]; exact h2)
  have HT2 := Lib.hid (HT1.out.and t2)
  have BX2 := Lib.hid (BX1.out.turnW t2 HVF.out)
  have hb2 : base ≤ v2.heap.size := Nat.le_trans hb1 t2.size
  replace hlx := BX2.out.1
  clear h2 t2 c0 c1 BX1 HW1 HT1 hb1
  have c0 : v2.cell? ⟨x, 0, none⟩ = some (.int .i64 1) := by rw [← HK.out]; exact BX2.out.2 0 _ rfl
  have c2 := BX2.out.2 2 _ rfl
  go_wp2_with fail
  refine (rw_num HW2.out hb2 p.epoch HP.out.epoch 4 4 rfl (by decide) 0 9223372036854775807 (by have := HP.out.data; have := HP.out.path; have := HP.out.path2; omega)).mono ?_
  rintro e v3 ⟨rfl, bv3, h2, t2⟩
  have HW3 := Lib.hid (show RW v3 g base bv3 (pN (pN (pN (gd (cliB p.client) (some [])) 1 1) p.client 1) p.epoch 4) (((0 + 8) + 8) + 8) by rw [← (show gd (decide ((0 : Int) ≤ p.epoch ∧ p.epoch ≤ 9223372036854775807)) (pN (pN (pN (gd (cliB p.client) (some [])) 1 1) p.client 1) p.epoch 4) = (pN (pN (pN (gd (cliB p.client) (some [])) 1 1) p.client 1) p.epoch 4) from gd_all HP.out.epoch _ _)]; exact h2)
  have HT3 := Lib.hid (HT2.out.and t2)
  have BX3 := Lib.hid (BX2.out.turnW t2 HVF.out)
  have hb3 : base ≤ v3.heap.size := Nat.le_trans hb2 t2.size
  replace hlx := BX3.out.1
  clear h2 t2 c0 c2 BX2 HW2 HT2 hb2
  have c0 : v3.cell? ⟨x, 0, none⟩ = some (.int .i64 1) := by rw [← HK.out]; exact BX3.out.2 0 _ rfl
  have c3 := BX3.out.2 3 _ rfl
  go_wp2_with fail
  refine (rw_num HW3.out hb3 p.seq HP.out.seq 8 8 rfl (by decide) 0 9223372036854775807 (by have := HP.out.data; have := HP.out.path; have := HP.out.path2; omega)).mono ?_
  rintro e v4 ⟨rfl, bv4, h2, t2⟩
  have HW4 := Lib.hid (show RW v4 g base bv4 (pN (pN (pN (pN (gd (cliB p.client) (some [])) 1 1) p.client 1) p.epoch 4) p.seq 8) ((((0 + 8) + 8) + 8) + 8) by rw [← (show gd (decide ((0 : Int) ≤ p.seq ∧ p.seq ≤ 9223372036854775807)) (pN (pN (pN (pN (gd (cliB p.client) (some [])) 1 1) p.client 1) p.epoch 4) p.seq 8) = (pN (pN (pN (pN (gd (cliB p.client) (some [])) 1 1) p.client 1) p.epoch 4) p.seq 8) from gd_all HP.out.seq _ _)]; exact h2)
  have HT4 := Lib.hid (HT3.out.and t2)
  have BX4 := Lib.hid (BX3.out.turnW t2 HVF.out)
  have hb4 : base ≤ v4.heap.size := Nat.le_trans hb3 t2.size
  replace hlx := BX4.out.1
  clear h2 t2 c0 c3 BX3 HW3 HT3 hb3
  replace HW4 := Lib.hid (show RW v4 g base bv4 (headP p) 32 by have := HW4.out; rw [← HK.out] at this; exact this)
  have c0 : v4.cell? ⟨x, 0, none⟩ = some (.int .i64 1) := by rw [← HK.out]; exact BX4.out.2 0 _ rfl
  have c4 := BX4.out.2 4 _ rfl
  go_wp2_with fail
  refine (rw_num HW4.out hb4 p.op HP.out.op 1 1 rfl (by decide) 1 4 (by have := HP.out.data; have := HP.out.path; have := HP.out.path2; omega)).mono ?_
  rintro e v5 ⟨rfl, bv5, h2, t2⟩
  have HW5 := Lib.hid (show RW v5 g base bv5 (pN (gd (verbB p.op) (headP p)) p.op 1) (32 + 8) by rw [← (show gd (decide ((1 : Int) ≤ p.op ∧ p.op ≤ 4)) (pN (headP p) p.op 1) = (pN (gd (verbB p.op) (headP p)) p.op 1) from gd_num _ _ _ _ _ _ rfl)]; exact h2)
  have HT5 := Lib.hid (HT4.out.and t2)
  have BX5 := Lib.hid (BX4.out.turnW t2 HVF.out)
  have hb5 : base ≤ v5.heap.size := Nat.le_trans hb4 t2.size
  replace hlx := BX5.out.1
  clear h2 t2 c0 c4 BX4 HW4 HT4 hb4
  have c0 : v5.cell? ⟨x, 0, none⟩ = some (.int .i64 1) := by rw [← HK.out]; exact BX5.out.2 0 _ rfl
  have c5 := BX5.out.2 5 _ rfl
  go_wp2_with fail
  refine (rw_num HW5.out hb5 p.at_ HP.out.at_ 4 4 rfl (by decide) 0 9223372036854775807 (by have := HP.out.data; have := HP.out.path; have := HP.out.path2; omega)).mono ?_
  rintro e v6 ⟨rfl, bv6, h2, t2⟩
  have HW6 := Lib.hid (show RW v6 g base bv6 (pN (pN (gd (verbB p.op) (headP p)) p.op 1) p.at_ 4) ((32 + 8) + 8) by rw [← (show gd (decide ((0 : Int) ≤ p.at_ ∧ p.at_ ≤ 9223372036854775807)) (pN (pN (gd (verbB p.op) (headP p)) p.op 1) p.at_ 4) = (pN (pN (gd (verbB p.op) (headP p)) p.op 1) p.at_ 4) from gd_all HP.out.at_ _ _)]; exact h2)
  have HT6 := Lib.hid (HT5.out.and t2)
  have BX6 := Lib.hid (BX5.out.turnW t2 HVF.out)
  have hb6 : base ≤ v6.heap.size := Nat.le_trans hb5 t2.size
  replace hlx := BX6.out.1
  clear h2 t2 c0 c5 BX5 HW5 HT5 hb5
  have c0 : v6.cell? ⟨x, 0, none⟩ = some (.int .i64 1) := by rw [← HK.out]; exact BX6.out.2 0 _ rfl
  have c6 := BX6.out.2 6 _ rfl
  go_wp2_with fail
  refine (rw_num HW6.out hb6 p.n HP.out.n 2 2 rfl (by decide) 0 9223372036854775807 (by have := HP.out.data; have := HP.out.path; have := HP.out.path2; omega)).mono ?_
  rintro e v7 ⟨rfl, bv7, h2, t2⟩
  have HW7 := Lib.hid (show RW v7 g base bv7 (pN (pN (pN (gd (verbB p.op) (headP p)) p.op 1) p.at_ 4) p.n 2) (((32 + 8) + 8) + 8) by rw [← (show gd (decide ((0 : Int) ≤ p.n ∧ p.n ≤ 9223372036854775807)) (pN (pN (pN (gd (verbB p.op) (headP p)) p.op 1) p.at_ 4) p.n 2) = (pN (pN (pN (gd (verbB p.op) (headP p)) p.op 1) p.at_ 4) p.n 2) from gd_all HP.out.n _ _)]; exact h2)
  have HT7 := Lib.hid (HT6.out.and t2)
  have BX7 := Lib.hid (BX6.out.turnW t2 HVF.out)
  have hb7 : base ≤ v7.heap.size := Nat.le_trans hb6 t2.size
  replace hlx := BX7.out.1
  clear h2 t2 c0 c6 BX6 HW6 HT6 hb6
  have c0 : v7.cell? ⟨x, 0, none⟩ = some (.int .i64 1) := by rw [← HK.out]; exact BX7.out.2 0 _ rfl
  have c7 := BX7.out.2 7 _ rfl
  go_wp2_with fail
  refine (rw_text HW7.out hb7 p.data (by have := HP.out.data; omega) 2 2 rfl (by decide) 128 (by have := HP.out.data; have := HP.out.path; have := HP.out.path2; omega)).mono ?_
  rintro e v8 ⟨rfl, bv8, h2, t2⟩
  have HW8 := Lib.hid (show RW v8 g base bv8 (pT (pN (pN (pN (gd (verbB p.op) (headP p)) p.op 1) p.at_ 4) p.n 2) p.data 2 128) ((((32 + 8) + 8) + 8) + 8 + p.data.size) from h2)
  have HT8 := Lib.hid (HT7.out.and t2)
  have BX8 := Lib.hid (BX7.out.turnW t2 HVF.out)
  have hb8 : base ≤ v8.heap.size := Nat.le_trans hb7 t2.size
  replace hlx := BX8.out.1
  clear h2 t2 c0 c7 BX7 HW7 HT7 hb7
  have c0 : v8.cell? ⟨x, 0, none⟩ = some (.int .i64 1) := by rw [← HK.out]; exact BX8.out.2 0 _ rfl
  have c8 := BX8.out.2 8 _ rfl
  go_wp2_with fail
  refine (rw_num HW8.out hb8 p.old HP.out.old 8 8 rfl (by decide) 0 9223372036854775807 (by have := HP.out.data; have := HP.out.path; have := HP.out.path2; omega)).mono ?_
  rintro e v9 ⟨rfl, bv9, h2, t2⟩
  have HW9 := Lib.hid (show RW v9 g base bv9 (pN (pT (pN (pN (pN (gd (verbB p.op) (headP p)) p.op 1) p.at_ 4) p.n 2) p.data 2 128) p.old 8) (((((32 + 8) + 8) + 8) + 8 + p.data.size) + 8) by rw [← (show gd (decide ((0 : Int) ≤ p.old ∧ p.old ≤ 9223372036854775807)) (pN (pT (pN (pN (pN (gd (verbB p.op) (headP p)) p.op 1) p.at_ 4) p.n 2) p.data 2 128) p.old 8) = (pN (pT (pN (pN (pN (gd (verbB p.op) (headP p)) p.op 1) p.at_ 4) p.n 2) p.data 2 128) p.old 8) from gd_all HP.out.old _ _)]; exact h2)
  have HT9 := Lib.hid (HT8.out.and t2)
  have BX9 := Lib.hid (BX8.out.turnW t2 HVF.out)
  have hb9 : base ≤ v9.heap.size := Nat.le_trans hb8 t2.size
  replace hlx := BX9.out.1
  clear h2 t2 c0 c8 BX8 HW8 HT8 hb8
  have c0 : v9.cell? ⟨x, 0, none⟩ = some (.int .i64 1) := by rw [← HK.out]; exact BX9.out.2 0 _ rfl
  have c9 := BX9.out.2 9 _ rfl
  go_wp2_with fail
  refine (rw_num HW9.out hb9 p.new HP.out.new 8 8 rfl (by decide) 0 9223372036854775807 (by have := HP.out.data; have := HP.out.path; have := HP.out.path2; omega)).mono ?_
  rintro e v10 ⟨rfl, bv10, h2, t2⟩
  have HW10 := Lib.hid (show RW v10 g base bv10 (pN (pN (pT (pN (pN (pN (gd (verbB p.op) (headP p)) p.op 1) p.at_ 4) p.n 2) p.data 2 128) p.old 8) p.new 8) ((((((32 + 8) + 8) + 8) + 8 + p.data.size) + 8) + 8) by rw [← (show gd (decide ((0 : Int) ≤ p.new ∧ p.new ≤ 9223372036854775807)) (pN (pN (pT (pN (pN (pN (gd (verbB p.op) (headP p)) p.op 1) p.at_ 4) p.n 2) p.data 2 128) p.old 8) p.new 8) = (pN (pN (pT (pN (pN (pN (gd (verbB p.op) (headP p)) p.op 1) p.at_ 4) p.n 2) p.data 2 128) p.old 8) p.new 8) from gd_all HP.out.new _ _)]; exact h2)
  have HT10 := Lib.hid (HT9.out.and t2)
  have BX10 := Lib.hid (BX9.out.turnW t2 HVF.out)
  have hb10 : base ≤ v10.heap.size := Nat.le_trans hb9 t2.size
  replace hlx := BX10.out.1
  clear h2 t2 c0 c9 BX9 HW9 HT9 hb9
  have c0 : v10.cell? ⟨x, 0, none⟩ = some (.int .i64 1) := by rw [← HK.out]; exact BX10.out.2 0 _ rfl
  have HIN := Lib.hid (show (pN (pN (pT (pN (pN (pN (gd (verbB p.op) (headP p)) p.op 1) p.at_ 4) p.n 2) p.data 2 128) p.old 8) p.new 8) = innerP p from ((kind1 HK.out).1).symm)
  obtain ⟨oE, hoE⟩ : ∃ z, z = (pN (pN (pT (pN (pN (pN (gd (verbB p.op) (headP p)) p.op 1) p.at_ 4) p.n 2) p.data 2 128) p.old 8) p.new 8) := ⟨_, rfl⟩
  rw [← hoE] at HW10 HIN
  clear hoE
  have HRZ := HR2.out.turnW HT10.out (fun hn q hq => VF.off (HR0.out.ne hwb hn q hq) (by obtain ⟨b, o, e, hb, -⟩ := HR0.out.2.2 hn; rw [e] at hq; injection hq with hq; subst hq; show b < base; omega))
  rw [HM.out] at HRZ
  have hcall := m_others (c := c) p HRZ (by rw [← HM.out]; exact h300)
  rw [← HM.out] at hcall
  clear HRZ
  go_upto_region 46 with (fail)
  refine wp_region_list ?_
  refine wpList_loadRow rfl 36 (.tmp 1) rfl (some 195) rfl x rfl (p.cells (.slice A m c)) _ BX10.out Try.underlying36 rfl pk_size ?_
  go_simp
  refine wpList_callC rfl (some 196) rfl 91 #[.agg (p.cells (.slice A m c)).toArray] (by first | rfl | go_simp) _ hcall (fun e w' h => ⟨_, h.1⟩) ?_
  rintro v w9 ⟨he, g9⟩
  obtain ⟨bb, hbb⟩ : ∃ z, z = decide (p = normP p) := ⟨_, rfl⟩
  rw [← hbb] at he
  obtain rfl : v = .bool bb := by injection he
  have HAN := Lib.hid (inn_bool HIN.out hbb)
  have HW9 := Lib.hid (HW10.out.keep g9)
  have HG9 := Lib.hid (show Grow w w9 from HG2.out.low ((HT10.out.low (B := w.heap.size) (fun i e => by rcases e with e | e <;> omega) HG2.out.size).trans (Below.mono g9 (by have := HT10.out.size; have := HG2.out.size; omega))))
  clear he hbb g9 hcall c0 HW10 HT10 BX10
  obtain ⟨A9, n9, c9, bs9, hbv, hown9, hn9, hl9⟩ := HW9.out.row
  subst hbv
  obtain ⟨d0, d1⟩ := HW9.out.blk.1.c2
  obtain ⟨fl, hfl⟩ : ∃ z, z = oE.isNone := ⟨_, rfl⟩
  rw [← hfl] at d1 HAN
  have HO9 := Lib.hid (show Own w9 w.heap.size A9 n9 c9 bs9 from hown9.low (by omega))
  have HL9 := Lib.hid (show ∀ l, innerP p = some l → l = bs9 from fun l hl => hl9 l (HIN.out.trans hl))
  have HN9 := Lib.hid (show n9 ≤ 4000000000000 by have := HP.out.data; have := HP.out.path; have := HP.out.path2; omega)
  clear hfl hown9 hn9 hl9
  cases fl with
  | true =>
    go_wp2_with fail
    go_quiet (fail)
    go_wp2_with fail
    go_ret2
    have hgq : Grow w9 (w9.drewN nq) := (Grow.refl _).drewN _
    exact ⟨⟨A9, n9, c9, bs9, by rw [HAN.out]; rfl, ⟨HO9.out.1, HO9.out.2.1, row_turnW HO9.out.2.2 (Turn.grow hgq (fun _ => False)) (fun _ _ q => q)⟩, HN9.out, HL9.out⟩, HG9.out.trans hgq⟩
  | false =>
    go_wp2_with fail
    go_quiet (fail)
    go_wp2_with fail
    go_ret2
    have hgq : Grow w9 (w9.drewN nq) := (Grow.refl _).drewN _
    exact ⟨⟨A9, n9, c9, bs9, by rw [HAN.out]; rfl, ⟨HO9.out.1, HO9.out.2.1, row_turnW HO9.out.2.2 (Turn.grow hgq (fun _ => False)) (fun _ _ q => q)⟩, HN9.out, HL9.out⟩, HG9.out.trans hgq⟩
end Go.Proofs.Ytdlcpfgogjcciaa

namespace Go.Proofs.Ytdlcpfgogjcciaa
open Go.RowKit Go.Great

set_option maxHeartbeats 16000000 in
set_option maxRecDepth 8000 in
theorem m_inner2 {w : World} {A : Option Addr} {c : Nat} (p : PK) (hp : p.ok) (hr : RS w A p.names.length p.names) (hk : p.kind = 2) :
    Calls Try.prog 63 #[.agg (p.cells (.slice A p.names.length c)).toArray] w fun e w' => InnAns w w' e p ∧ Grow w w' := by
  obtain ⟨m, hm⟩ : ∃ m, m = p.names.length := ⟨_, rfl⟩
  have HP := Lib.hid hp
  have HM := Lib.hid hm
  have HR0 := Lib.hid hr
  have h300 : m ≤ 1048576 := by rw [hm]; exact hp.names.1
  rw [← hm] at HR0 ⊢
  clear hm hr hp
  rw [show (p.cells (.slice A m c)).toArray = #[.int .i64 p.kind, .int .i64 p.client, .int .i64 p.epoch, .int .i64 p.seq, .int .i64 p.op, .int .i64 p.at_, .int .i64 p.n, .string p.data, .int .i64 p.old, .int .i64 p.new, .int .i64 p.ckind, .string p.path, .string p.path2, .int .i64 p.flags, .int .i64 p.cfd, .int .i64 p.coff, .int .i64 p.cn, .string p.cdata, .int .i64 p.ino, .int .i64 p.errno, .int .i64 p.rerrno, .int .i64 p.rfd, .string p.rdata, .slice A m c, .int .i64 p.ikind, .int .i64 p.ilinks, .int .i64 p.isize, .int .i64 p.wrote, .int .i64 p.nkind, .int .i64 p.nlinks, .int .i64 p.nsize, .int .i64 p.b0, .int .i64 p.b1, .int .i64 p.b2, .int .i64 p.b3, .int .i64 p.o0, .int .i64 p.o1, .int .i64 p.o2, .int .i64 p.o3, .int .i64 p.o4, .int .i64 p.o5, .int .i64 p.o6, .int .i64 p.o7] from rfl]
  obtain ⟨kd, hkd⟩ : ∃ z, z = p.kind := ⟨_, rfl⟩
  have HKD := Lib.hid hkd
  have HK := Lib.hid hk
  clear hk hkd
  go_enter Try.func63, Try.ntmps63
  go_upto_region 1 with (fail)
  have hb := Blk.new w 36 (p.cells (.slice A m c)) #[.int .i64 p.kind, .int .i64 p.client, .int .i64 p.epoch, .int .i64 p.seq, .int .i64 p.op, .int .i64 p.at_, .int .i64 p.n, .string p.data, .int .i64 p.old, .int .i64 p.new, .int .i64 p.ckind, .string p.path, .string p.path2, .int .i64 p.flags, .int .i64 p.cfd, .int .i64 p.coff, .int .i64 p.cn, .string p.cdata, .int .i64 p.ino, .int .i64 p.errno, .int .i64 p.rerrno, .int .i64 p.rfd, .string p.rdata, .slice A m c, .int .i64 p.ikind, .int .i64 p.ilinks, .int .i64 p.isize, .int .i64 p.wrote, .int .i64 p.nkind, .int .i64 p.nlinks, .int .i64 p.nsize, .int .i64 p.b0, .int .i64 p.b1, .int .i64 p.b2, .int .i64 p.b3, .int .i64 p.o0, .int .i64 p.o1, .int .i64 p.o2, .int .i64 p.o3, .int .i64 p.o4, .int .i64 p.o5, .int .i64 p.o6, .int .i64 p.o7] (0, 0) rfl
  have ga := (Grow.refl w).alloc (.cells #[.int .i64 p.kind, .int .i64 p.client, .int .i64 p.epoch, .int .i64 p.seq, .int .i64 p.op, .int .i64 p.at_, .int .i64 p.n, .string p.data, .int .i64 p.old, .int .i64 p.new, .int .i64 p.ckind, .string p.path, .string p.path2, .int .i64 p.flags, .int .i64 p.cfd, .int .i64 p.coff, .int .i64 p.cn, .string p.cdata, .int .i64 p.ino, .int .i64 p.errno, .int .i64 p.rerrno, .int .i64 p.rfd, .string p.rdata, .slice A m c, .int .i64 p.ikind, .int .i64 p.ilinks, .int .i64 p.isize, .int .i64 p.wrote, .int .i64 p.nkind, .int .i64 p.nlinks, .int .i64 p.nsize, .int .i64 p.b0, .int .i64 p.b1, .int .i64 p.b2, .int .i64 p.b3, .int .i64 p.o0, .int .i64 p.o1, .int .i64 p.o2, .int .i64 p.o3, .int .i64 p.o4, .int .i64 p.o5, .int .i64 p.o6, .int .i64 p.o7] 36)
  obtain ⟨w1, hw1⟩ : ∃ z, z = w.alloc (.cells #[.int .i64 p.kind, .int .i64 p.client, .int .i64 p.epoch, .int .i64 p.seq, .int .i64 p.op, .int .i64 p.at_, .int .i64 p.n, .string p.data, .int .i64 p.old, .int .i64 p.new, .int .i64 p.ckind, .string p.path, .string p.path2, .int .i64 p.flags, .int .i64 p.cfd, .int .i64 p.coff, .int .i64 p.cn, .string p.cdata, .int .i64 p.ino, .int .i64 p.errno, .int .i64 p.rerrno, .int .i64 p.rfd, .string p.rdata, .slice A m c, .int .i64 p.ikind, .int .i64 p.ilinks, .int .i64 p.isize, .int .i64 p.wrote, .int .i64 p.nkind, .int .i64 p.nlinks, .int .i64 p.nsize, .int .i64 p.b0, .int .i64 p.b1, .int .i64 p.b2, .int .i64 p.b3, .int .i64 p.o0, .int .i64 p.o1, .int .i64 p.o2, .int .i64 p.o3, .int .i64 p.o4, .int .i64 p.o5, .int .i64 p.o6, .int .i64 p.o7] 36) := ⟨_, rfl⟩
  obtain ⟨x, hx⟩ : ∃ z, z = w.heap.size := ⟨_, rfl⟩
  rw [← hw1] at hb ga ⊢
  rw [← hx] at hb ⊢
  obtain ⟨P0, hP0⟩ : ∃ z, z = Value.agg #[.int .i64 p.kind, .int .i64 p.client, .int .i64 p.epoch, .int .i64 p.seq, .int .i64 p.op, .int .i64 p.at_, .int .i64 p.n, .string p.data, .int .i64 p.old, .int .i64 p.new, .int .i64 p.ckind, .string p.path, .string p.path2, .int .i64 p.flags, .int .i64 p.cfd, .int .i64 p.coff, .int .i64 p.cn, .string p.cdata, .int .i64 p.ino, .int .i64 p.errno, .int .i64 p.rerrno, .int .i64 p.rfd, .string p.rdata, .slice A m c, .int .i64 p.ikind, .int .i64 p.ilinks, .int .i64 p.isize, .int .i64 p.wrote, .int .i64 p.nkind, .int .i64 p.nlinks, .int .i64 p.nsize, .int .i64 p.b0, .int .i64 p.b1, .int .i64 p.b2, .int .i64 p.b3, .int .i64 p.o0, .int .i64 p.o1, .int .i64 p.o2, .int .i64 p.o3, .int .i64 p.o4, .int .i64 p.o5, .int .i64 p.o6, .int .i64 p.o7] := ⟨_, rfl⟩
  rw [← hP0]
  have BX1 := Lib.hid hb
  have HG1 := Lib.hid ga
  have HX := Lib.hid hx
  have HR1 := Lib.hid (HR0.out.grow ga)
  clear hw1 hb ga hx hP0
  go_upto_region 2 with (fail)
  have hrow := Row.new w1 142 [.slice none 0 0, .bool false] _ rfl
  have ga := (Grow.refl w1).alloc (.cells #[.slice none 0 0, .bool false] 142)
  have hsz : (w1.alloc (.cells #[.slice none 0 0, .bool false] 142)).heap.size = w1.heap.size + 1 := by simp
  obtain ⟨w2, hw2⟩ : ∃ z, z = w1.alloc (.cells #[.slice none 0 0, .bool false] 142) := ⟨_, rfl⟩
  obtain ⟨g, hg⟩ : ∃ z, z = w1.heap.size := ⟨_, rfl⟩
  rw [← hw2] at hrow ga hsz ⊢
  rw [← hg] at hrow hsz ⊢
  obtain ⟨base, hbs⟩ : ∃ z, z = w2.heap.size := ⟨_, rfl⟩
  have hxl := BX1.out.1
  have hxg : ¬ x = g := by omega
  have hgb : g < base := by omega
  have hxb : x < base := by omega
  have hwb : w.heap.size ≤ g := by have := HX.out; omega
  have HW0 := Lib.hid (show RW w2 g base (.slice none 0 0) (some []) 0 from ⟨hrow, hgb, none, 0, 0, [], rfl, Own.nil _ _, Nat.le_refl _, fun l hl => by injection hl with hl; exact hl.symm⟩)
  have BX0 := Lib.hid (BX1.out.keep ga)
  have HG2 := Lib.hid (HG1.out.trans ga)
  have HT0 := Lib.hid (Turn.refl (VF g base) w2)
  have HR2 := Lib.hid (HR1.out.grow ga)
  have hb0 : base ≤ w2.heap.size := by omega
  have HVF := Lib.hid (show ¬ VF g base x from VF.off hxg hxb)
  have hlx := BX0.out.1
  clear hw2 hrow ga hg hsz hbs HR1 HG1 BX1
  have c0 : w2.cell? ⟨x, 0, none⟩ = some (.int .i64 2) := by rw [← HK.out]; exact BX0.out.2 0 _ rfl
  go_wp2_with fail
  refine (rw_num HW0.out hb0 (2 : Int) ⟨by decide, by decide⟩ 1 1 rfl (by decide) 1 5 (by have := HP.out.data; have := HP.out.path; have := HP.out.path2; omega)).mono ?_
  rintro e v1 ⟨rfl, bv1, h2, t2⟩
  have HW1 := Lib.hid (show RW v1 g base bv1 (pN (some []) 2 1) (0 + 8) by rw [← (show gd (decide ((1 : Int) ≤ 2 ∧ (2 : Int) ≤ 5)) (pN (some []) 2 1) = (pN (some []) 2 1) from rfl)]; exact h2)
  have HT1 := Lib.hid (HT0.out.and t2)
  have BX1 := Lib.hid (BX0.out.turnW t2 HVF.out)
  have hb1 : base ≤ v1.heap.size := Nat.le_trans hb0 t2.size
  replace hlx := BX1.out.1
  clear h2 t2 c0 BX0 HW0 HT0 hb0
  have c0 : v1.cell? ⟨x, 0, none⟩ = some (.int .i64 2) := by rw [← HK.out]; exact BX1.out.2 0 _ rfl
  have c1 := BX1.out.2 1 _ rfl
  go_wp2_with fail
  refine (rw_num HW1.out hb1 p.client HP.out.client 1 1 rfl (by decide) 1 8 (by have := HP.out.data; have := HP.out.path; have := HP.out.path2; omega)).mono ?_
  rintro e v2 ⟨rfl, bv2, h2, t2⟩
  have HW2 := Lib.hid (show RW v2 g base bv2 (pN (pN (gd (cliB p.client) (some [])) 2 1) p.client 1) ((0 + 8) + 8) by rw [← (show gd (decide ((1 : Int) ≤ p.client ∧ p.client ≤ 8)) (pN (pN (some []) 2 1) p.client 1) = (pN (pN (gd (cliB p.client) (some [])) 2 1) p.client 1) from by rw [gd_pN, gd_pN]; rfl)]; exact h2)
  have HT2 := Lib.hid (HT1.out.and t2)
  have BX2 := Lib.hid (BX1.out.turnW t2 HVF.out)
  have hb2 : base ≤ v2.heap.size := Nat.le_trans hb1 t2.size
  replace hlx := BX2.out.1
  clear h2 t2 c0 c1 BX1 HW1 HT1 hb1
  have c0 : v2.cell? ⟨x, 0, none⟩ = some (.int .i64 2) := by rw [← HK.out]; exact BX2.out.2 0 _ rfl
  have c2 := BX2.out.2 2 _ rfl
  go_wp2_with fail
  refine (rw_num HW2.out hb2 p.epoch HP.out.epoch 4 4 rfl (by decide) 0 9223372036854775807 (by have := HP.out.data; have := HP.out.path; have := HP.out.path2; omega)).mono ?_
  rintro e v3 ⟨rfl, bv3, h2, t2⟩
  have HW3 := Lib.hid (show RW v3 g base bv3 (pN (pN (pN (gd (cliB p.client) (some [])) 2 1) p.client 1) p.epoch 4) (((0 + 8) + 8) + 8) by rw [← (show gd (decide ((0 : Int) ≤ p.epoch ∧ p.epoch ≤ 9223372036854775807)) (pN (pN (pN (gd (cliB p.client) (some [])) 2 1) p.client 1) p.epoch 4) = (pN (pN (pN (gd (cliB p.client) (some [])) 2 1) p.client 1) p.epoch 4) from gd_all HP.out.epoch _ _)]; exact h2)
  have HT3 := Lib.hid (HT2.out.and t2)
  have BX3 := Lib.hid (BX2.out.turnW t2 HVF.out)
  have hb3 : base ≤ v3.heap.size := Nat.le_trans hb2 t2.size
  replace hlx := BX3.out.1
  clear h2 t2 c0 c2 BX2 HW2 HT2 hb2
  have c0 : v3.cell? ⟨x, 0, none⟩ = some (.int .i64 2) := by rw [← HK.out]; exact BX3.out.2 0 _ rfl
  have c3 := BX3.out.2 3 _ rfl
  go_wp2_with fail
  refine (rw_num HW3.out hb3 p.seq HP.out.seq 8 8 rfl (by decide) 0 9223372036854775807 (by have := HP.out.data; have := HP.out.path; have := HP.out.path2; omega)).mono ?_
  rintro e v4 ⟨rfl, bv4, h2, t2⟩
  have HW4 := Lib.hid (show RW v4 g base bv4 (pN (pN (pN (pN (gd (cliB p.client) (some [])) 2 1) p.client 1) p.epoch 4) p.seq 8) ((((0 + 8) + 8) + 8) + 8) by rw [← (show gd (decide ((0 : Int) ≤ p.seq ∧ p.seq ≤ 9223372036854775807)) (pN (pN (pN (pN (gd (cliB p.client) (some [])) 2 1) p.client 1) p.epoch 4) p.seq 8) = (pN (pN (pN (pN (gd (cliB p.client) (some [])) 2 1) p.client 1) p.epoch 4) p.seq 8) from gd_all HP.out.seq _ _)]; exact h2)
  have HT4 := Lib.hid (HT3.out.and t2)
  have BX4 := Lib.hid (BX3.out.turnW t2 HVF.out)
  have hb4 : base ≤ v4.heap.size := Nat.le_trans hb3 t2.size
  replace hlx := BX4.out.1
  clear h2 t2 c0 c3 BX3 HW3 HT3 hb3
  replace HW4 := Lib.hid (show RW v4 g base bv4 (headP p) 32 by have := HW4.out; rw [← HK.out] at this; exact this)
  have c0 : v4.cell? ⟨x, 0, none⟩ = some (.int .i64 2) := by rw [← HK.out]; exact BX4.out.2 0 _ rfl
  have c4 := BX4.out.2 4 _ rfl
  go_wp2_with fail
  refine (rw_num HW4.out hb4 p.op HP.out.op 1 1 rfl (by decide) 1 4 (by have := HP.out.data; have := HP.out.path; have := HP.out.path2; omega)).mono ?_
  rintro e v5 ⟨rfl, bv5, h2, t2⟩
  have HW5 := Lib.hid (show RW v5 g base bv5 (pN (gd (verbB p.op) (headP p)) p.op 1) (32 + 8) by rw [← (show gd (decide ((1 : Int) ≤ p.op ∧ p.op ≤ 4)) (pN (headP p) p.op 1) = (pN (gd (verbB p.op) (headP p)) p.op 1) from gd_num _ _ _ _ _ _ rfl)]; exact h2)
  have HT5 := Lib.hid (HT4.out.and t2)
  have BX5 := Lib.hid (BX4.out.turnW t2 HVF.out)
  have hb5 : base ≤ v5.heap.size := Nat.le_trans hb4 t2.size
  replace hlx := BX5.out.1
  clear h2 t2 c0 c4 BX4 HW4 HT4 hb4
  have c0 : v5.cell? ⟨x, 0, none⟩ = some (.int .i64 2) := by rw [← HK.out]; exact BX5.out.2 0 _ rfl
  have c19 := BX5.out.2 19 _ rfl
  go_wp2_with fail
  refine (rw_num HW5.out hb5 p.errno HP.out.errno 1 1 rfl (by decide) 0 9223372036854775807 (by have := HP.out.data; have := HP.out.path; have := HP.out.path2; omega)).mono ?_
  rintro e v6 ⟨rfl, bv6, h2, t2⟩
  have HW6 := Lib.hid (show RW v6 g base bv6 (pN (pN (gd (verbB p.op) (headP p)) p.op 1) p.errno 1) ((32 + 8) + 8) by rw [← (show gd (decide ((0 : Int) ≤ p.errno ∧ p.errno ≤ 9223372036854775807)) (pN (pN (gd (verbB p.op) (headP p)) p.op 1) p.errno 1) = (pN (pN (gd (verbB p.op) (headP p)) p.op 1) p.errno 1) from gd_all HP.out.errno _ _)]; exact h2)
  have HT6 := Lib.hid (HT5.out.and t2)
  have BX6 := Lib.hid (BX5.out.turnW t2 HVF.out)
  have hb6 : base ≤ v6.heap.size := Nat.le_trans hb5 t2.size
  replace hlx := BX6.out.1
  clear h2 t2 c0 c19 BX5 HW5 HT5 hb5
  have c0 : v6.cell? ⟨x, 0, none⟩ = some (.int .i64 2) := by rw [← HK.out]; exact BX6.out.2 0 _ rfl
  have c7 := BX6.out.2 7 _ rfl
  go_wp2_with fail
  refine (rw_text HW6.out hb6 p.data (by have := HP.out.data; omega) 2 2 rfl (by decide) 128 (by have := HP.out.data; have := HP.out.path; have := HP.out.path2; omega)).mono ?_
  rintro e v7 ⟨rfl, bv7, h2, t2⟩
  have HW7 := Lib.hid (show RW v7 g base bv7 (pT (pN (pN (gd (verbB p.op) (headP p)) p.op 1) p.errno 1) p.data 2 128) (((32 + 8) + 8) + 8 + p.data.size) from h2)
  have HT7 := Lib.hid (HT6.out.and t2)
  have BX7 := Lib.hid (BX6.out.turnW t2 HVF.out)
  have hb7 : base ≤ v7.heap.size := Nat.le_trans hb6 t2.size
  replace hlx := BX7.out.1
  clear h2 t2 c0 c7 BX6 HW6 HT6 hb6
  have c0 : v7.cell? ⟨x, 0, none⟩ = some (.int .i64 2) := by rw [← HK.out]; exact BX7.out.2 0 _ rfl
  have c8 := BX7.out.2 8 _ rfl
  go_wp2_with fail
  refine (rw_num HW7.out hb7 p.old HP.out.old 8 8 rfl (by decide) 0 9223372036854775807 (by have := HP.out.data; have := HP.out.path; have := HP.out.path2; omega)).mono ?_
  rintro e v8 ⟨rfl, bv8, h2, t2⟩
  have HW8 := Lib.hid (show RW v8 g base bv8 (pN (pT (pN (pN (gd (verbB p.op) (headP p)) p.op 1) p.errno 1) p.data 2 128) p.old 8) ((((32 + 8) + 8) + 8 + p.data.size) + 8) by rw [← (show gd (decide ((0 : Int) ≤ p.old ∧ p.old ≤ 9223372036854775807)) (pN (pT (pN (pN (gd (verbB p.op) (headP p)) p.op 1) p.errno 1) p.data 2 128) p.old 8) = (pN (pT (pN (pN (gd (verbB p.op) (headP p)) p.op 1) p.errno 1) p.data 2 128) p.old 8) from gd_all HP.out.old _ _)]; exact h2)
  have HT8 := Lib.hid (HT7.out.and t2)
  have BX8 := Lib.hid (BX7.out.turnW t2 HVF.out)
  have hb8 : base ≤ v8.heap.size := Nat.le_trans hb7 t2.size
  replace hlx := BX8.out.1
  clear h2 t2 c0 c8 BX7 HW7 HT7 hb7
  have c0 : v8.cell? ⟨x, 0, none⟩ = some (.int .i64 2) := by rw [← HK.out]; exact BX8.out.2 0 _ rfl
  have HIN := Lib.hid (show (pN (pT (pN (pN (gd (verbB p.op) (headP p)) p.op 1) p.errno 1) p.data 2 128) p.old 8) = innerP p from ((kind2 HK.out).1).symm)
  obtain ⟨oE, hoE⟩ : ∃ z, z = (pN (pT (pN (pN (gd (verbB p.op) (headP p)) p.op 1) p.errno 1) p.data 2 128) p.old 8) := ⟨_, rfl⟩
  rw [← hoE] at HW8 HIN
  clear hoE
  have HRZ := HR2.out.turnW HT8.out (fun hn q hq => VF.off (HR0.out.ne hwb hn q hq) (by obtain ⟨b, o, e, hb, -⟩ := HR0.out.2.2 hn; rw [e] at hq; injection hq with hq; subst hq; show b < base; omega))
  rw [HM.out] at HRZ
  have hcall := m_others (c := c) p HRZ (by rw [← HM.out]; exact h300)
  rw [← HM.out] at hcall
  clear HRZ
  go_upto_region 46 with (fail)
  refine wp_region_list ?_
  refine wpList_loadRow rfl 36 (.tmp 1) rfl (some 195) rfl x rfl (p.cells (.slice A m c)) _ BX8.out Try.underlying36 rfl pk_size ?_
  go_simp
  refine wpList_callC rfl (some 196) rfl 91 #[.agg (p.cells (.slice A m c)).toArray] (by first | rfl | go_simp) _ hcall (fun e w' h => ⟨_, h.1⟩) ?_
  rintro v w9 ⟨he, g9⟩
  obtain ⟨bb, hbb⟩ : ∃ z, z = decide (p = normP p) := ⟨_, rfl⟩
  rw [← hbb] at he
  obtain rfl : v = .bool bb := by injection he
  have HAN := Lib.hid (inn_bool HIN.out hbb)
  have HW9 := Lib.hid (HW8.out.keep g9)
  have HG9 := Lib.hid (show Grow w w9 from HG2.out.low ((HT8.out.low (B := w.heap.size) (fun i e => by rcases e with e | e <;> omega) HG2.out.size).trans (Below.mono g9 (by have := HT8.out.size; have := HG2.out.size; omega))))
  clear he hbb g9 hcall c0 HW8 HT8 BX8
  obtain ⟨A9, n9, c9, bs9, hbv, hown9, hn9, hl9⟩ := HW9.out.row
  subst hbv
  obtain ⟨d0, d1⟩ := HW9.out.blk.1.c2
  obtain ⟨fl, hfl⟩ : ∃ z, z = oE.isNone := ⟨_, rfl⟩
  rw [← hfl] at d1 HAN
  have HO9 := Lib.hid (show Own w9 w.heap.size A9 n9 c9 bs9 from hown9.low (by omega))
  have HL9 := Lib.hid (show ∀ l, innerP p = some l → l = bs9 from fun l hl => hl9 l (HIN.out.trans hl))
  have HN9 := Lib.hid (show n9 ≤ 4000000000000 by have := HP.out.data; have := HP.out.path; have := HP.out.path2; omega)
  clear hfl hown9 hn9 hl9
  cases fl with
  | true =>
    go_wp2_with fail
    go_quiet (fail)
    go_wp2_with fail
    go_ret2
    have hgq : Grow w9 (w9.drewN nq) := (Grow.refl _).drewN _
    exact ⟨⟨A9, n9, c9, bs9, by rw [HAN.out]; rfl, ⟨HO9.out.1, HO9.out.2.1, row_turnW HO9.out.2.2 (Turn.grow hgq (fun _ => False)) (fun _ _ q => q)⟩, HN9.out, HL9.out⟩, HG9.out.trans hgq⟩
  | false =>
    go_wp2_with fail
    go_quiet (fail)
    go_wp2_with fail
    go_ret2
    have hgq : Grow w9 (w9.drewN nq) := (Grow.refl _).drewN _
    exact ⟨⟨A9, n9, c9, bs9, by rw [HAN.out]; rfl, ⟨HO9.out.1, HO9.out.2.1, row_turnW HO9.out.2.2 (Turn.grow hgq (fun _ => False)) (fun _ _ q => q)⟩, HN9.out, HL9.out⟩, HG9.out.trans hgq⟩
end Go.Proofs.Ytdlcpfgogjcciaa

namespace Go.Proofs.Ytdlcpfgogjcciaa
open Go.RowKit Go.Great

set_option maxHeartbeats 16000000 in
set_option maxRecDepth 8000 in
theorem m_inner3 {w : World} {A : Option Addr} {c : Nat} (p : PK) (hp : p.ok) (hr : RS w A p.names.length p.names) (hk : p.kind = 3) :
    Calls Try.prog 63 #[.agg (p.cells (.slice A p.names.length c)).toArray] w fun e w' => InnAns w w' e p ∧ Grow w w' := by
  obtain ⟨m, hm⟩ : ∃ m, m = p.names.length := ⟨_, rfl⟩
  have HP := Lib.hid hp
  have HM := Lib.hid hm
  have HR0 := Lib.hid hr
  have h300 : m ≤ 1048576 := by rw [hm]; exact hp.names.1
  rw [← hm] at HR0 ⊢
  clear hm hr hp
  rw [show (p.cells (.slice A m c)).toArray = #[.int .i64 p.kind, .int .i64 p.client, .int .i64 p.epoch, .int .i64 p.seq, .int .i64 p.op, .int .i64 p.at_, .int .i64 p.n, .string p.data, .int .i64 p.old, .int .i64 p.new, .int .i64 p.ckind, .string p.path, .string p.path2, .int .i64 p.flags, .int .i64 p.cfd, .int .i64 p.coff, .int .i64 p.cn, .string p.cdata, .int .i64 p.ino, .int .i64 p.errno, .int .i64 p.rerrno, .int .i64 p.rfd, .string p.rdata, .slice A m c, .int .i64 p.ikind, .int .i64 p.ilinks, .int .i64 p.isize, .int .i64 p.wrote, .int .i64 p.nkind, .int .i64 p.nlinks, .int .i64 p.nsize, .int .i64 p.b0, .int .i64 p.b1, .int .i64 p.b2, .int .i64 p.b3, .int .i64 p.o0, .int .i64 p.o1, .int .i64 p.o2, .int .i64 p.o3, .int .i64 p.o4, .int .i64 p.o5, .int .i64 p.o6, .int .i64 p.o7] from rfl]
  obtain ⟨kd, hkd⟩ : ∃ z, z = p.kind := ⟨_, rfl⟩
  have HKD := Lib.hid hkd
  have HK := Lib.hid hk
  clear hk hkd
  go_enter Try.func63, Try.ntmps63
  go_upto_region 1 with (fail)
  have hb := Blk.new w 36 (p.cells (.slice A m c)) #[.int .i64 p.kind, .int .i64 p.client, .int .i64 p.epoch, .int .i64 p.seq, .int .i64 p.op, .int .i64 p.at_, .int .i64 p.n, .string p.data, .int .i64 p.old, .int .i64 p.new, .int .i64 p.ckind, .string p.path, .string p.path2, .int .i64 p.flags, .int .i64 p.cfd, .int .i64 p.coff, .int .i64 p.cn, .string p.cdata, .int .i64 p.ino, .int .i64 p.errno, .int .i64 p.rerrno, .int .i64 p.rfd, .string p.rdata, .slice A m c, .int .i64 p.ikind, .int .i64 p.ilinks, .int .i64 p.isize, .int .i64 p.wrote, .int .i64 p.nkind, .int .i64 p.nlinks, .int .i64 p.nsize, .int .i64 p.b0, .int .i64 p.b1, .int .i64 p.b2, .int .i64 p.b3, .int .i64 p.o0, .int .i64 p.o1, .int .i64 p.o2, .int .i64 p.o3, .int .i64 p.o4, .int .i64 p.o5, .int .i64 p.o6, .int .i64 p.o7] (0, 0) rfl
  have ga := (Grow.refl w).alloc (.cells #[.int .i64 p.kind, .int .i64 p.client, .int .i64 p.epoch, .int .i64 p.seq, .int .i64 p.op, .int .i64 p.at_, .int .i64 p.n, .string p.data, .int .i64 p.old, .int .i64 p.new, .int .i64 p.ckind, .string p.path, .string p.path2, .int .i64 p.flags, .int .i64 p.cfd, .int .i64 p.coff, .int .i64 p.cn, .string p.cdata, .int .i64 p.ino, .int .i64 p.errno, .int .i64 p.rerrno, .int .i64 p.rfd, .string p.rdata, .slice A m c, .int .i64 p.ikind, .int .i64 p.ilinks, .int .i64 p.isize, .int .i64 p.wrote, .int .i64 p.nkind, .int .i64 p.nlinks, .int .i64 p.nsize, .int .i64 p.b0, .int .i64 p.b1, .int .i64 p.b2, .int .i64 p.b3, .int .i64 p.o0, .int .i64 p.o1, .int .i64 p.o2, .int .i64 p.o3, .int .i64 p.o4, .int .i64 p.o5, .int .i64 p.o6, .int .i64 p.o7] 36)
  obtain ⟨w1, hw1⟩ : ∃ z, z = w.alloc (.cells #[.int .i64 p.kind, .int .i64 p.client, .int .i64 p.epoch, .int .i64 p.seq, .int .i64 p.op, .int .i64 p.at_, .int .i64 p.n, .string p.data, .int .i64 p.old, .int .i64 p.new, .int .i64 p.ckind, .string p.path, .string p.path2, .int .i64 p.flags, .int .i64 p.cfd, .int .i64 p.coff, .int .i64 p.cn, .string p.cdata, .int .i64 p.ino, .int .i64 p.errno, .int .i64 p.rerrno, .int .i64 p.rfd, .string p.rdata, .slice A m c, .int .i64 p.ikind, .int .i64 p.ilinks, .int .i64 p.isize, .int .i64 p.wrote, .int .i64 p.nkind, .int .i64 p.nlinks, .int .i64 p.nsize, .int .i64 p.b0, .int .i64 p.b1, .int .i64 p.b2, .int .i64 p.b3, .int .i64 p.o0, .int .i64 p.o1, .int .i64 p.o2, .int .i64 p.o3, .int .i64 p.o4, .int .i64 p.o5, .int .i64 p.o6, .int .i64 p.o7] 36) := ⟨_, rfl⟩
  obtain ⟨x, hx⟩ : ∃ z, z = w.heap.size := ⟨_, rfl⟩
  rw [← hw1] at hb ga ⊢
  rw [← hx] at hb ⊢
  obtain ⟨P0, hP0⟩ : ∃ z, z = Value.agg #[.int .i64 p.kind, .int .i64 p.client, .int .i64 p.epoch, .int .i64 p.seq, .int .i64 p.op, .int .i64 p.at_, .int .i64 p.n, .string p.data, .int .i64 p.old, .int .i64 p.new, .int .i64 p.ckind, .string p.path, .string p.path2, .int .i64 p.flags, .int .i64 p.cfd, .int .i64 p.coff, .int .i64 p.cn, .string p.cdata, .int .i64 p.ino, .int .i64 p.errno, .int .i64 p.rerrno, .int .i64 p.rfd, .string p.rdata, .slice A m c, .int .i64 p.ikind, .int .i64 p.ilinks, .int .i64 p.isize, .int .i64 p.wrote, .int .i64 p.nkind, .int .i64 p.nlinks, .int .i64 p.nsize, .int .i64 p.b0, .int .i64 p.b1, .int .i64 p.b2, .int .i64 p.b3, .int .i64 p.o0, .int .i64 p.o1, .int .i64 p.o2, .int .i64 p.o3, .int .i64 p.o4, .int .i64 p.o5, .int .i64 p.o6, .int .i64 p.o7] := ⟨_, rfl⟩
  rw [← hP0]
  have BX1 := Lib.hid hb
  have HG1 := Lib.hid ga
  have HX := Lib.hid hx
  have HR1 := Lib.hid (HR0.out.grow ga)
  clear hw1 hb ga hx hP0
  go_upto_region 2 with (fail)
  have hrow := Row.new w1 142 [.slice none 0 0, .bool false] _ rfl
  have ga := (Grow.refl w1).alloc (.cells #[.slice none 0 0, .bool false] 142)
  have hsz : (w1.alloc (.cells #[.slice none 0 0, .bool false] 142)).heap.size = w1.heap.size + 1 := by simp
  obtain ⟨w2, hw2⟩ : ∃ z, z = w1.alloc (.cells #[.slice none 0 0, .bool false] 142) := ⟨_, rfl⟩
  obtain ⟨g, hg⟩ : ∃ z, z = w1.heap.size := ⟨_, rfl⟩
  rw [← hw2] at hrow ga hsz ⊢
  rw [← hg] at hrow hsz ⊢
  obtain ⟨base, hbs⟩ : ∃ z, z = w2.heap.size := ⟨_, rfl⟩
  have hxl := BX1.out.1
  have hxg : ¬ x = g := by omega
  have hgb : g < base := by omega
  have hxb : x < base := by omega
  have hwb : w.heap.size ≤ g := by have := HX.out; omega
  have HW0 := Lib.hid (show RW w2 g base (.slice none 0 0) (some []) 0 from ⟨hrow, hgb, none, 0, 0, [], rfl, Own.nil _ _, Nat.le_refl _, fun l hl => by injection hl with hl; exact hl.symm⟩)
  have BX0 := Lib.hid (BX1.out.keep ga)
  have HG2 := Lib.hid (HG1.out.trans ga)
  have HT0 := Lib.hid (Turn.refl (VF g base) w2)
  have HR2 := Lib.hid (HR1.out.grow ga)
  have hb0 : base ≤ w2.heap.size := by omega
  have HVF := Lib.hid (show ¬ VF g base x from VF.off hxg hxb)
  have hlx := BX0.out.1
  clear hw2 hrow ga hg hsz hbs HR1 HG1 BX1
  have c0 : w2.cell? ⟨x, 0, none⟩ = some (.int .i64 3) := by rw [← HK.out]; exact BX0.out.2 0 _ rfl
  go_wp2_with fail
  refine (rw_num HW0.out hb0 (3 : Int) ⟨by decide, by decide⟩ 1 1 rfl (by decide) 1 5 (by have := HP.out.data; have := HP.out.path; have := HP.out.path2; omega)).mono ?_
  rintro e v1 ⟨rfl, bv1, h2, t2⟩
  have HW1 := Lib.hid (show RW v1 g base bv1 (pN (some []) 3 1) (0 + 8) by rw [← (show gd (decide ((1 : Int) ≤ 3 ∧ (3 : Int) ≤ 5)) (pN (some []) 3 1) = (pN (some []) 3 1) from rfl)]; exact h2)
  have HT1 := Lib.hid (HT0.out.and t2)
  have BX1 := Lib.hid (BX0.out.turnW t2 HVF.out)
  have hb1 : base ≤ v1.heap.size := Nat.le_trans hb0 t2.size
  replace hlx := BX1.out.1
  clear h2 t2 c0 BX0 HW0 HT0 hb0
  have c0 : v1.cell? ⟨x, 0, none⟩ = some (.int .i64 3) := by rw [← HK.out]; exact BX1.out.2 0 _ rfl
  have c1 := BX1.out.2 1 _ rfl
  go_wp2_with fail
  refine (rw_num HW1.out hb1 p.client HP.out.client 1 1 rfl (by decide) 1 8 (by have := HP.out.data; have := HP.out.path; have := HP.out.path2; omega)).mono ?_
  rintro e v2 ⟨rfl, bv2, h2, t2⟩
  have HW2 := Lib.hid (show RW v2 g base bv2 (pN (pN (gd (cliB p.client) (some [])) 3 1) p.client 1) ((0 + 8) + 8) by rw [← (show gd (decide ((1 : Int) ≤ p.client ∧ p.client ≤ 8)) (pN (pN (some []) 3 1) p.client 1) = (pN (pN (gd (cliB p.client) (some [])) 3 1) p.client 1) from by rw [gd_pN, gd_pN]; rfl)]; exact h2)
  have HT2 := Lib.hid (HT1.out.and t2)
  have BX2 := Lib.hid (BX1.out.turnW t2 HVF.out)
  have hb2 : base ≤ v2.heap.size := Nat.le_trans hb1 t2.size
  replace hlx := BX2.out.1
  clear h2 t2 c0 c1 BX1 HW1 HT1 hb1
  have c0 : v2.cell? ⟨x, 0, none⟩ = some (.int .i64 3) := by rw [← HK.out]; exact BX2.out.2 0 _ rfl
  have c2 := BX2.out.2 2 _ rfl
  go_wp2_with fail
  refine (rw_num HW2.out hb2 p.epoch HP.out.epoch 4 4 rfl (by decide) 0 9223372036854775807 (by have := HP.out.data; have := HP.out.path; have := HP.out.path2; omega)).mono ?_
  rintro e v3 ⟨rfl, bv3, h2, t2⟩
  have HW3 := Lib.hid (show RW v3 g base bv3 (pN (pN (pN (gd (cliB p.client) (some [])) 3 1) p.client 1) p.epoch 4) (((0 + 8) + 8) + 8) by rw [← (show gd (decide ((0 : Int) ≤ p.epoch ∧ p.epoch ≤ 9223372036854775807)) (pN (pN (pN (gd (cliB p.client) (some [])) 3 1) p.client 1) p.epoch 4) = (pN (pN (pN (gd (cliB p.client) (some [])) 3 1) p.client 1) p.epoch 4) from gd_all HP.out.epoch _ _)]; exact h2)
  have HT3 := Lib.hid (HT2.out.and t2)
  have BX3 := Lib.hid (BX2.out.turnW t2 HVF.out)
  have hb3 : base ≤ v3.heap.size := Nat.le_trans hb2 t2.size
  replace hlx := BX3.out.1
  clear h2 t2 c0 c2 BX2 HW2 HT2 hb2
  have c0 : v3.cell? ⟨x, 0, none⟩ = some (.int .i64 3) := by rw [← HK.out]; exact BX3.out.2 0 _ rfl
  have c3 := BX3.out.2 3 _ rfl
  go_wp2_with fail
  refine (rw_num HW3.out hb3 p.seq HP.out.seq 8 8 rfl (by decide) 0 9223372036854775807 (by have := HP.out.data; have := HP.out.path; have := HP.out.path2; omega)).mono ?_
  rintro e v4 ⟨rfl, bv4, h2, t2⟩
  have HW4 := Lib.hid (show RW v4 g base bv4 (pN (pN (pN (pN (gd (cliB p.client) (some [])) 3 1) p.client 1) p.epoch 4) p.seq 8) ((((0 + 8) + 8) + 8) + 8) by rw [← (show gd (decide ((0 : Int) ≤ p.seq ∧ p.seq ≤ 9223372036854775807)) (pN (pN (pN (pN (gd (cliB p.client) (some [])) 3 1) p.client 1) p.epoch 4) p.seq 8) = (pN (pN (pN (pN (gd (cliB p.client) (some [])) 3 1) p.client 1) p.epoch 4) p.seq 8) from gd_all HP.out.seq _ _)]; exact h2)
  have HT4 := Lib.hid (HT3.out.and t2)
  have BX4 := Lib.hid (BX3.out.turnW t2 HVF.out)
  have hb4 : base ≤ v4.heap.size := Nat.le_trans hb3 t2.size
  replace hlx := BX4.out.1
  clear h2 t2 c0 c3 BX3 HW3 HT3 hb3
  replace HW4 := Lib.hid (show RW v4 g base bv4 (headP p) 32 by have := HW4.out; rw [← HK.out] at this; exact this)
  have c0 : v4.cell? ⟨x, 0, none⟩ = some (.int .i64 3) := by rw [← HK.out]; exact BX4.out.2 0 _ rfl
  have c4 := BX4.out.2 4 _ rfl
  go_wp2_with fail
  refine (rw_num HW4.out hb4 p.op HP.out.op 1 1 rfl (by decide) 0 9223372036854775807 (by have := HP.out.data; have := HP.out.path; have := HP.out.path2; omega)).mono ?_
  rintro e v5 ⟨rfl, bv5, h2, t2⟩
  have HW5 := Lib.hid (show RW v5 g base bv5 (pN (headP p) p.op 1) (32 + 8) by rw [← (show gd (decide ((0 : Int) ≤ p.op ∧ p.op ≤ 9223372036854775807)) (pN (headP p) p.op 1) = (pN (headP p) p.op 1) from gd_all HP.out.op _ _)]; exact h2)
  have HT5 := Lib.hid (HT4.out.and t2)
  have BX5 := Lib.hid (BX4.out.turnW t2 HVF.out)
  have hb5 : base ≤ v5.heap.size := Nat.le_trans hb4 t2.size
  replace hlx := BX5.out.1
  clear h2 t2 c0 c4 BX4 HW4 HT4 hb4
  have c0 : v5.cell? ⟨x, 0, none⟩ = some (.int .i64 3) := by rw [← HK.out]; exact BX5.out.2 0 _ rfl
  have c18 := BX5.out.2 18 _ rfl
  go_wp2_with fail
  refine (rw_num HW5.out hb5 p.ino HP.out.ino 1 1 rfl (by decide) 0 9223372036854775807 (by have := HP.out.data; have := HP.out.path; have := HP.out.path2; omega)).mono ?_
  rintro e v6 ⟨rfl, bv6, h2, t2⟩
  have HW6 := Lib.hid (show RW v6 g base bv6 (pN (pN (headP p) p.op 1) p.ino 1) ((32 + 8) + 8) by rw [← (show gd (decide ((0 : Int) ≤ p.ino ∧ p.ino ≤ 9223372036854775807)) (pN (pN (headP p) p.op 1) p.ino 1) = (pN (pN (headP p) p.op 1) p.ino 1) from gd_all HP.out.ino _ _)]; exact h2)
  have HT6 := Lib.hid (HT5.out.and t2)
  have BX6 := Lib.hid (BX5.out.turnW t2 HVF.out)
  have hb6 : base ≤ v6.heap.size := Nat.le_trans hb5 t2.size
  replace hlx := BX6.out.1
  clear h2 t2 c0 c18 BX5 HW5 HT5 hb5
  have c0 : v6.cell? ⟨x, 0, none⟩ = some (.int .i64 3) := by rw [← HK.out]; exact BX6.out.2 0 _ rfl
  have c11 := BX6.out.2 11 _ rfl
  go_wp2_with fail
  refine (rw_text HW6.out hb6 p.path (by have := HP.out.path; omega) 1 1 rfl (by decide) 100 (by have := HP.out.data; have := HP.out.path; have := HP.out.path2; omega)).mono ?_
  rintro e v7 ⟨rfl, bv7, h2, t2⟩
  have HW7 := Lib.hid (show RW v7 g base bv7 (pT (pN (pN (headP p) p.op 1) p.ino 1) p.path 1 100) (((32 + 8) + 8) + 8 + p.path.size) from h2)
  have HT7 := Lib.hid (HT6.out.and t2)
  have BX7 := Lib.hid (BX6.out.turnW t2 HVF.out)
  have hb7 : base ≤ v7.heap.size := Nat.le_trans hb6 t2.size
  replace hlx := BX7.out.1
  clear h2 t2 c0 c11 BX6 HW6 HT6 hb6
  have c0 : v7.cell? ⟨x, 0, none⟩ = some (.int .i64 3) := by rw [← HK.out]; exact BX7.out.2 0 _ rfl
  have c12 := BX7.out.2 12 _ rfl
  go_wp2_with fail
  refine (rw_text HW7.out hb7 p.path2 (by have := HP.out.path2; omega) 1 1 rfl (by decide) 100 (by have := HP.out.data; have := HP.out.path; have := HP.out.path2; omega)).mono ?_
  rintro e v8 ⟨rfl, bv8, h2, t2⟩
  have HW8 := Lib.hid (show RW v8 g base bv8 (pT (pT (pN (pN (headP p) p.op 1) p.ino 1) p.path 1 100) p.path2 1 100) ((((32 + 8) + 8) + 8 + p.path.size) + 8 + p.path2.size) from h2)
  have HT8 := Lib.hid (HT7.out.and t2)
  have BX8 := Lib.hid (BX7.out.turnW t2 HVF.out)
  have hb8 : base ≤ v8.heap.size := Nat.le_trans hb7 t2.size
  replace hlx := BX8.out.1
  clear h2 t2 c0 c12 BX7 HW7 HT7 hb7
  have c0 : v8.cell? ⟨x, 0, none⟩ = some (.int .i64 3) := by rw [← HK.out]; exact BX8.out.2 0 _ rfl
  have c13 := BX8.out.2 13 _ rfl
  go_wp2_with fail
  refine (rw_num HW8.out hb8 p.flags HP.out.flags 1 1 rfl (by decide) 0 9223372036854775807 (by have := HP.out.data; have := HP.out.path; have := HP.out.path2; omega)).mono ?_
  rintro e v9 ⟨rfl, bv9, h2, t2⟩
  have HW9 := Lib.hid (show RW v9 g base bv9 (pN (pT (pT (pN (pN (headP p) p.op 1) p.ino 1) p.path 1 100) p.path2 1 100) p.flags 1) (((((32 + 8) + 8) + 8 + p.path.size) + 8 + p.path2.size) + 8) by rw [← (show gd (decide ((0 : Int) ≤ p.flags ∧ p.flags ≤ 9223372036854775807)) (pN (pT (pT (pN (pN (headP p) p.op 1) p.ino 1) p.path 1 100) p.path2 1 100) p.flags 1) = (pN (pT (pT (pN (pN (headP p) p.op 1) p.ino 1) p.path 1 100) p.path2 1 100) p.flags 1) from gd_all HP.out.flags _ _)]; exact h2)
  have HT9 := Lib.hid (HT8.out.and t2)
  have BX9 := Lib.hid (BX8.out.turnW t2 HVF.out)
  have hb9 : base ≤ v9.heap.size := Nat.le_trans hb8 t2.size
  replace hlx := BX9.out.1
  clear h2 t2 c0 c13 BX8 HW8 HT8 hb8
  have c0 : v9.cell? ⟨x, 0, none⟩ = some (.int .i64 3) := by rw [← HK.out]; exact BX9.out.2 0 _ rfl
  have c16 := BX9.out.2 16 _ rfl
  go_wp2_with fail
  refine (rw_num HW9.out hb9 p.cn HP.out.cn 4 4 rfl (by decide) 0 9223372036854775807 (by have := HP.out.data; have := HP.out.path; have := HP.out.path2; omega)).mono ?_
  rintro e v10 ⟨rfl, bv10, h2, t2⟩
  have HW10 := Lib.hid (show RW v10 g base bv10 (pN (pN (pT (pT (pN (pN (headP p) p.op 1) p.ino 1) p.path 1 100) p.path2 1 100) p.flags 1) p.cn 4) ((((((32 + 8) + 8) + 8 + p.path.size) + 8 + p.path2.size) + 8) + 8) by rw [← (show gd (decide ((0 : Int) ≤ p.cn ∧ p.cn ≤ 9223372036854775807)) (pN (pN (pT (pT (pN (pN (headP p) p.op 1) p.ino 1) p.path 1 100) p.path2 1 100) p.flags 1) p.cn 4) = (pN (pN (pT (pT (pN (pN (headP p) p.op 1) p.ino 1) p.path 1 100) p.path2 1 100) p.flags 1) p.cn 4) from gd_all HP.out.cn _ _)]; exact h2)
  have HT10 := Lib.hid (HT9.out.and t2)
  have BX10 := Lib.hid (BX9.out.turnW t2 HVF.out)
  have hb10 : base ≤ v10.heap.size := Nat.le_trans hb9 t2.size
  replace hlx := BX10.out.1
  clear h2 t2 c0 c16 BX9 HW9 HT9 hb9
  have c0 : v10.cell? ⟨x, 0, none⟩ = some (.int .i64 3) := by rw [← HK.out]; exact BX10.out.2 0 _ rfl
  have HIN := Lib.hid (show (pN (pN (pT (pT (pN (pN (headP p) p.op 1) p.ino 1) p.path 1 100) p.path2 1 100) p.flags 1) p.cn 4) = innerP p from ((kind3 HK.out).1).symm)
  obtain ⟨oE, hoE⟩ : ∃ z, z = (pN (pN (pT (pT (pN (pN (headP p) p.op 1) p.ino 1) p.path 1 100) p.path2 1 100) p.flags 1) p.cn 4) := ⟨_, rfl⟩
  rw [← hoE] at HW10 HIN
  clear hoE
  have HRZ := HR2.out.turnW HT10.out (fun hn q hq => VF.off (HR0.out.ne hwb hn q hq) (by obtain ⟨b, o, e, hb, -⟩ := HR0.out.2.2 hn; rw [e] at hq; injection hq with hq; subst hq; show b < base; omega))
  rw [HM.out] at HRZ
  have hcall := m_others (c := c) p HRZ (by rw [← HM.out]; exact h300)
  rw [← HM.out] at hcall
  clear HRZ
  go_upto_region 46 with (fail)
  refine wp_region_list ?_
  refine wpList_loadRow rfl 36 (.tmp 1) rfl (some 195) rfl x rfl (p.cells (.slice A m c)) _ BX10.out Try.underlying36 rfl pk_size ?_
  go_simp
  refine wpList_callC rfl (some 196) rfl 91 #[.agg (p.cells (.slice A m c)).toArray] (by first | rfl | go_simp) _ hcall (fun e w' h => ⟨_, h.1⟩) ?_
  rintro v w9 ⟨he, g9⟩
  obtain ⟨bb, hbb⟩ : ∃ z, z = decide (p = normP p) := ⟨_, rfl⟩
  rw [← hbb] at he
  obtain rfl : v = .bool bb := by injection he
  have HAN := Lib.hid (inn_bool HIN.out hbb)
  have HW9 := Lib.hid (HW10.out.keep g9)
  have HG9 := Lib.hid (show Grow w w9 from HG2.out.low ((HT10.out.low (B := w.heap.size) (fun i e => by rcases e with e | e <;> omega) HG2.out.size).trans (Below.mono g9 (by have := HT10.out.size; have := HG2.out.size; omega))))
  clear he hbb g9 hcall c0 HW10 HT10 BX10
  obtain ⟨A9, n9, c9, bs9, hbv, hown9, hn9, hl9⟩ := HW9.out.row
  subst hbv
  obtain ⟨d0, d1⟩ := HW9.out.blk.1.c2
  obtain ⟨fl, hfl⟩ : ∃ z, z = oE.isNone := ⟨_, rfl⟩
  rw [← hfl] at d1 HAN
  have HO9 := Lib.hid (show Own w9 w.heap.size A9 n9 c9 bs9 from hown9.low (by omega))
  have HL9 := Lib.hid (show ∀ l, innerP p = some l → l = bs9 from fun l hl => hl9 l (HIN.out.trans hl))
  have HN9 := Lib.hid (show n9 ≤ 4000000000000 by have := HP.out.data; have := HP.out.path; have := HP.out.path2; omega)
  clear hfl hown9 hn9 hl9
  cases fl with
  | true =>
    go_wp2_with fail
    go_quiet (fail)
    go_wp2_with fail
    go_ret2
    have hgq : Grow w9 (w9.drewN nq) := (Grow.refl _).drewN _
    exact ⟨⟨A9, n9, c9, bs9, by rw [HAN.out]; rfl, ⟨HO9.out.1, HO9.out.2.1, row_turnW HO9.out.2.2 (Turn.grow hgq (fun _ => False)) (fun _ _ q => q)⟩, HN9.out, HL9.out⟩, HG9.out.trans hgq⟩
  | false =>
    go_wp2_with fail
    go_quiet (fail)
    go_wp2_with fail
    go_ret2
    have hgq : Grow w9 (w9.drewN nq) := (Grow.refl _).drewN _
    exact ⟨⟨A9, n9, c9, bs9, by rw [HAN.out]; rfl, ⟨HO9.out.1, HO9.out.2.1, row_turnW HO9.out.2.2 (Turn.grow hgq (fun _ => False)) (fun _ _ q => q)⟩, HN9.out, HL9.out⟩, HG9.out.trans hgq⟩
end Go.Proofs.Ytdlcpfgogjcciaa

namespace Go.Proofs.Ytdlcpfgogjcciaa
open Go.RowKit Go.Great

set_option maxHeartbeats 16000000 in
set_option maxRecDepth 8000 in
theorem m_inner4 {w : World} {A : Option Addr} {c : Nat} (p : PK) (hp : p.ok) (hr : RS w A p.names.length p.names) (hk : p.kind = 4) :
    Calls Try.prog 63 #[.agg (p.cells (.slice A p.names.length c)).toArray] w fun e w' => InnAns w w' e p ∧ Grow w w' := by
  obtain ⟨m, hm⟩ : ∃ m, m = p.names.length := ⟨_, rfl⟩
  have HP := Lib.hid hp
  have HM := Lib.hid hm
  have HR0 := Lib.hid hr
  have h300 : m ≤ 1048576 := by rw [hm]; exact hp.names.1
  rw [← hm] at HR0 ⊢
  clear hm hr hp
  rw [show (p.cells (.slice A m c)).toArray = #[.int .i64 p.kind, .int .i64 p.client, .int .i64 p.epoch, .int .i64 p.seq, .int .i64 p.op, .int .i64 p.at_, .int .i64 p.n, .string p.data, .int .i64 p.old, .int .i64 p.new, .int .i64 p.ckind, .string p.path, .string p.path2, .int .i64 p.flags, .int .i64 p.cfd, .int .i64 p.coff, .int .i64 p.cn, .string p.cdata, .int .i64 p.ino, .int .i64 p.errno, .int .i64 p.rerrno, .int .i64 p.rfd, .string p.rdata, .slice A m c, .int .i64 p.ikind, .int .i64 p.ilinks, .int .i64 p.isize, .int .i64 p.wrote, .int .i64 p.nkind, .int .i64 p.nlinks, .int .i64 p.nsize, .int .i64 p.b0, .int .i64 p.b1, .int .i64 p.b2, .int .i64 p.b3, .int .i64 p.o0, .int .i64 p.o1, .int .i64 p.o2, .int .i64 p.o3, .int .i64 p.o4, .int .i64 p.o5, .int .i64 p.o6, .int .i64 p.o7] from rfl]
  obtain ⟨kd, hkd⟩ : ∃ z, z = p.kind := ⟨_, rfl⟩
  have HKD := Lib.hid hkd
  have HK := Lib.hid hk
  clear hk hkd
  go_enter Try.func63, Try.ntmps63
  go_upto_region 1 with (fail)
  have hb := Blk.new w 36 (p.cells (.slice A m c)) #[.int .i64 p.kind, .int .i64 p.client, .int .i64 p.epoch, .int .i64 p.seq, .int .i64 p.op, .int .i64 p.at_, .int .i64 p.n, .string p.data, .int .i64 p.old, .int .i64 p.new, .int .i64 p.ckind, .string p.path, .string p.path2, .int .i64 p.flags, .int .i64 p.cfd, .int .i64 p.coff, .int .i64 p.cn, .string p.cdata, .int .i64 p.ino, .int .i64 p.errno, .int .i64 p.rerrno, .int .i64 p.rfd, .string p.rdata, .slice A m c, .int .i64 p.ikind, .int .i64 p.ilinks, .int .i64 p.isize, .int .i64 p.wrote, .int .i64 p.nkind, .int .i64 p.nlinks, .int .i64 p.nsize, .int .i64 p.b0, .int .i64 p.b1, .int .i64 p.b2, .int .i64 p.b3, .int .i64 p.o0, .int .i64 p.o1, .int .i64 p.o2, .int .i64 p.o3, .int .i64 p.o4, .int .i64 p.o5, .int .i64 p.o6, .int .i64 p.o7] (0, 0) rfl
  have ga := (Grow.refl w).alloc (.cells #[.int .i64 p.kind, .int .i64 p.client, .int .i64 p.epoch, .int .i64 p.seq, .int .i64 p.op, .int .i64 p.at_, .int .i64 p.n, .string p.data, .int .i64 p.old, .int .i64 p.new, .int .i64 p.ckind, .string p.path, .string p.path2, .int .i64 p.flags, .int .i64 p.cfd, .int .i64 p.coff, .int .i64 p.cn, .string p.cdata, .int .i64 p.ino, .int .i64 p.errno, .int .i64 p.rerrno, .int .i64 p.rfd, .string p.rdata, .slice A m c, .int .i64 p.ikind, .int .i64 p.ilinks, .int .i64 p.isize, .int .i64 p.wrote, .int .i64 p.nkind, .int .i64 p.nlinks, .int .i64 p.nsize, .int .i64 p.b0, .int .i64 p.b1, .int .i64 p.b2, .int .i64 p.b3, .int .i64 p.o0, .int .i64 p.o1, .int .i64 p.o2, .int .i64 p.o3, .int .i64 p.o4, .int .i64 p.o5, .int .i64 p.o6, .int .i64 p.o7] 36)
  obtain ⟨w1, hw1⟩ : ∃ z, z = w.alloc (.cells #[.int .i64 p.kind, .int .i64 p.client, .int .i64 p.epoch, .int .i64 p.seq, .int .i64 p.op, .int .i64 p.at_, .int .i64 p.n, .string p.data, .int .i64 p.old, .int .i64 p.new, .int .i64 p.ckind, .string p.path, .string p.path2, .int .i64 p.flags, .int .i64 p.cfd, .int .i64 p.coff, .int .i64 p.cn, .string p.cdata, .int .i64 p.ino, .int .i64 p.errno, .int .i64 p.rerrno, .int .i64 p.rfd, .string p.rdata, .slice A m c, .int .i64 p.ikind, .int .i64 p.ilinks, .int .i64 p.isize, .int .i64 p.wrote, .int .i64 p.nkind, .int .i64 p.nlinks, .int .i64 p.nsize, .int .i64 p.b0, .int .i64 p.b1, .int .i64 p.b2, .int .i64 p.b3, .int .i64 p.o0, .int .i64 p.o1, .int .i64 p.o2, .int .i64 p.o3, .int .i64 p.o4, .int .i64 p.o5, .int .i64 p.o6, .int .i64 p.o7] 36) := ⟨_, rfl⟩
  obtain ⟨x, hx⟩ : ∃ z, z = w.heap.size := ⟨_, rfl⟩
  rw [← hw1] at hb ga ⊢
  rw [← hx] at hb ⊢
  obtain ⟨P0, hP0⟩ : ∃ z, z = Value.agg #[.int .i64 p.kind, .int .i64 p.client, .int .i64 p.epoch, .int .i64 p.seq, .int .i64 p.op, .int .i64 p.at_, .int .i64 p.n, .string p.data, .int .i64 p.old, .int .i64 p.new, .int .i64 p.ckind, .string p.path, .string p.path2, .int .i64 p.flags, .int .i64 p.cfd, .int .i64 p.coff, .int .i64 p.cn, .string p.cdata, .int .i64 p.ino, .int .i64 p.errno, .int .i64 p.rerrno, .int .i64 p.rfd, .string p.rdata, .slice A m c, .int .i64 p.ikind, .int .i64 p.ilinks, .int .i64 p.isize, .int .i64 p.wrote, .int .i64 p.nkind, .int .i64 p.nlinks, .int .i64 p.nsize, .int .i64 p.b0, .int .i64 p.b1, .int .i64 p.b2, .int .i64 p.b3, .int .i64 p.o0, .int .i64 p.o1, .int .i64 p.o2, .int .i64 p.o3, .int .i64 p.o4, .int .i64 p.o5, .int .i64 p.o6, .int .i64 p.o7] := ⟨_, rfl⟩
  rw [← hP0]
  have BX1 := Lib.hid hb
  have HG1 := Lib.hid ga
  have HX := Lib.hid hx
  have HR1 := Lib.hid (HR0.out.grow ga)
  clear hw1 hb ga hx hP0
  go_upto_region 2 with (fail)
  have hrow := Row.new w1 142 [.slice none 0 0, .bool false] _ rfl
  have ga := (Grow.refl w1).alloc (.cells #[.slice none 0 0, .bool false] 142)
  have hsz : (w1.alloc (.cells #[.slice none 0 0, .bool false] 142)).heap.size = w1.heap.size + 1 := by simp
  obtain ⟨w2, hw2⟩ : ∃ z, z = w1.alloc (.cells #[.slice none 0 0, .bool false] 142) := ⟨_, rfl⟩
  obtain ⟨g, hg⟩ : ∃ z, z = w1.heap.size := ⟨_, rfl⟩
  rw [← hw2] at hrow ga hsz ⊢
  rw [← hg] at hrow hsz ⊢
  obtain ⟨base, hbs⟩ : ∃ z, z = w2.heap.size := ⟨_, rfl⟩
  have hxl := BX1.out.1
  have hxg : ¬ x = g := by omega
  have hgb : g < base := by omega
  have hxb : x < base := by omega
  have hwb : w.heap.size ≤ g := by have := HX.out; omega
  have HW0 := Lib.hid (show RW w2 g base (.slice none 0 0) (some []) 0 from ⟨hrow, hgb, none, 0, 0, [], rfl, Own.nil _ _, Nat.le_refl _, fun l hl => by injection hl with hl; exact hl.symm⟩)
  have BX0 := Lib.hid (BX1.out.keep ga)
  have HG2 := Lib.hid (HG1.out.trans ga)
  have HT0 := Lib.hid (Turn.refl (VF g base) w2)
  have HR2 := Lib.hid (HR1.out.grow ga)
  have hb0 : base ≤ w2.heap.size := by omega
  have HVF := Lib.hid (show ¬ VF g base x from VF.off hxg hxb)
  have hlx := BX0.out.1
  clear hw2 hrow ga hg hsz hbs HR1 HG1 BX1
  have c0 : w2.cell? ⟨x, 0, none⟩ = some (.int .i64 4) := by rw [← HK.out]; exact BX0.out.2 0 _ rfl
  go_wp2_with fail
  refine (rw_num HW0.out hb0 (4 : Int) ⟨by decide, by decide⟩ 1 1 rfl (by decide) 1 5 (by have := HP.out.data; have := HP.out.path; have := HP.out.path2; omega)).mono ?_
  rintro e v1 ⟨rfl, bv1, h2, t2⟩
  have HW1 := Lib.hid (show RW v1 g base bv1 (pN (some []) 4 1) (0 + 8) by rw [← (show gd (decide ((1 : Int) ≤ 4 ∧ (4 : Int) ≤ 5)) (pN (some []) 4 1) = (pN (some []) 4 1) from rfl)]; exact h2)
  have HT1 := Lib.hid (HT0.out.and t2)
  have BX1 := Lib.hid (BX0.out.turnW t2 HVF.out)
  have hb1 : base ≤ v1.heap.size := Nat.le_trans hb0 t2.size
  replace hlx := BX1.out.1
  clear h2 t2 c0 BX0 HW0 HT0 hb0
  have c0 : v1.cell? ⟨x, 0, none⟩ = some (.int .i64 4) := by rw [← HK.out]; exact BX1.out.2 0 _ rfl
  have c1 := BX1.out.2 1 _ rfl
  go_wp2_with fail
  refine (rw_num HW1.out hb1 p.client HP.out.client 1 1 rfl (by decide) 1 8 (by have := HP.out.data; have := HP.out.path; have := HP.out.path2; omega)).mono ?_
  rintro e v2 ⟨rfl, bv2, h2, t2⟩
  have HW2 := Lib.hid (show RW v2 g base bv2 (pN (pN (gd (cliB p.client) (some [])) 4 1) p.client 1) ((0 + 8) + 8) by rw [← (show gd (decide ((1 : Int) ≤ p.client ∧ p.client ≤ 8)) (pN (pN (some []) 4 1) p.client 1) = (pN (pN (gd (cliB p.client) (some [])) 4 1) p.client 1) from by rw [gd_pN, gd_pN]; rfl)]; exact h2)
  have HT2 := Lib.hid (HT1.out.and t2)
  have BX2 := Lib.hid (BX1.out.turnW t2 HVF.out)
  have hb2 : base ≤ v2.heap.size := Nat.le_trans hb1 t2.size
  replace hlx := BX2.out.1
  clear h2 t2 c0 c1 BX1 HW1 HT1 hb1
  have c0 : v2.cell? ⟨x, 0, none⟩ = some (.int .i64 4) := by rw [← HK.out]; exact BX2.out.2 0 _ rfl
  have c2 := BX2.out.2 2 _ rfl
  go_wp2_with fail
  refine (rw_num HW2.out hb2 p.epoch HP.out.epoch 4 4 rfl (by decide) 0 9223372036854775807 (by have := HP.out.data; have := HP.out.path; have := HP.out.path2; omega)).mono ?_
  rintro e v3 ⟨rfl, bv3, h2, t2⟩
  have HW3 := Lib.hid (show RW v3 g base bv3 (pN (pN (pN (gd (cliB p.client) (some [])) 4 1) p.client 1) p.epoch 4) (((0 + 8) + 8) + 8) by rw [← (show gd (decide ((0 : Int) ≤ p.epoch ∧ p.epoch ≤ 9223372036854775807)) (pN (pN (pN (gd (cliB p.client) (some [])) 4 1) p.client 1) p.epoch 4) = (pN (pN (pN (gd (cliB p.client) (some [])) 4 1) p.client 1) p.epoch 4) from gd_all HP.out.epoch _ _)]; exact h2)
  have HT3 := Lib.hid (HT2.out.and t2)
  have BX3 := Lib.hid (BX2.out.turnW t2 HVF.out)
  have hb3 : base ≤ v3.heap.size := Nat.le_trans hb2 t2.size
  replace hlx := BX3.out.1
  clear h2 t2 c0 c2 BX2 HW2 HT2 hb2
  have c0 : v3.cell? ⟨x, 0, none⟩ = some (.int .i64 4) := by rw [← HK.out]; exact BX3.out.2 0 _ rfl
  have c3 := BX3.out.2 3 _ rfl
  go_wp2_with fail
  refine (rw_num HW3.out hb3 p.seq HP.out.seq 8 8 rfl (by decide) 0 9223372036854775807 (by have := HP.out.data; have := HP.out.path; have := HP.out.path2; omega)).mono ?_
  rintro e v4 ⟨rfl, bv4, h2, t2⟩
  have HW4 := Lib.hid (show RW v4 g base bv4 (pN (pN (pN (pN (gd (cliB p.client) (some [])) 4 1) p.client 1) p.epoch 4) p.seq 8) ((((0 + 8) + 8) + 8) + 8) by rw [← (show gd (decide ((0 : Int) ≤ p.seq ∧ p.seq ≤ 9223372036854775807)) (pN (pN (pN (pN (gd (cliB p.client) (some [])) 4 1) p.client 1) p.epoch 4) p.seq 8) = (pN (pN (pN (pN (gd (cliB p.client) (some [])) 4 1) p.client 1) p.epoch 4) p.seq 8) from gd_all HP.out.seq _ _)]; exact h2)
  have HT4 := Lib.hid (HT3.out.and t2)
  have BX4 := Lib.hid (BX3.out.turnW t2 HVF.out)
  have hb4 : base ≤ v4.heap.size := Nat.le_trans hb3 t2.size
  replace hlx := BX4.out.1
  clear h2 t2 c0 c3 BX3 HW3 HT3 hb3
  replace HW4 := Lib.hid (show RW v4 g base bv4 (headP p) 32 by have := HW4.out; rw [← HK.out] at this; exact this)
  have c0 : v4.cell? ⟨x, 0, none⟩ = some (.int .i64 4) := by rw [← HK.out]; exact BX4.out.2 0 _ rfl
  have c4 := BX4.out.2 4 _ rfl
  go_wp2_with fail
  refine (rw_num HW4.out hb4 p.op HP.out.op 1 1 rfl (by decide) 0 9223372036854775807 (by have := HP.out.data; have := HP.out.path; have := HP.out.path2; omega)).mono ?_
  rintro e v5 ⟨rfl, bv5, h2, t2⟩
  have HW5 := Lib.hid (show RW v5 g base bv5 (pN (headP p) p.op 1) (32 + 8) by rw [← (show gd (decide ((0 : Int) ≤ p.op ∧ p.op ≤ 9223372036854775807)) (pN (headP p) p.op 1) = (pN (headP p) p.op 1) from gd_all HP.out.op _ _)]; exact h2)
  have HT5 := Lib.hid (HT4.out.and t2)
  have BX5 := Lib.hid (BX4.out.turnW t2 HVF.out)
  have hb5 : base ≤ v5.heap.size := Nat.le_trans hb4 t2.size
  replace hlx := BX5.out.1
  clear h2 t2 c0 c4 BX4 HW4 HT4 hb4
  have c0 : v5.cell? ⟨x, 0, none⟩ = some (.int .i64 4) := by rw [← HK.out]; exact BX5.out.2 0 _ rfl
  have c19 := BX5.out.2 19 _ rfl
  go_wp2_with fail
  refine (rw_num HW5.out hb5 p.errno HP.out.errno 1 1 rfl (by decide) 0 9223372036854775807 (by have := HP.out.data; have := HP.out.path; have := HP.out.path2; omega)).mono ?_
  rintro e v6 ⟨rfl, bv6, h2, t2⟩
  have HW6 := Lib.hid (show RW v6 g base bv6 (pN (pN (headP p) p.op 1) p.errno 1) ((32 + 8) + 8) by rw [← (show gd (decide ((0 : Int) ≤ p.errno ∧ p.errno ≤ 9223372036854775807)) (pN (pN (headP p) p.op 1) p.errno 1) = (pN (pN (headP p) p.op 1) p.errno 1) from gd_all HP.out.errno _ _)]; exact h2)
  have HT6 := Lib.hid (HT5.out.and t2)
  have BX6 := Lib.hid (BX5.out.turnW t2 HVF.out)
  have hb6 : base ≤ v6.heap.size := Nat.le_trans hb5 t2.size
  replace hlx := BX6.out.1
  clear h2 t2 c0 c19 BX5 HW5 HT5 hb5
  have c0 : v6.cell? ⟨x, 0, none⟩ = some (.int .i64 4) := by rw [← HK.out]; exact BX6.out.2 0 _ rfl
  have c18 := BX6.out.2 18 _ rfl
  go_wp2_with fail
  refine (rw_num HW6.out hb6 p.ino HP.out.ino 1 1 rfl (by decide) 0 9223372036854775807 (by have := HP.out.data; have := HP.out.path; have := HP.out.path2; omega)).mono ?_
  rintro e v7 ⟨rfl, bv7, h2, t2⟩
  have HW7 := Lib.hid (show RW v7 g base bv7 (pN (pN (pN (headP p) p.op 1) p.errno 1) p.ino 1) (((32 + 8) + 8) + 8) by rw [← (show gd (decide ((0 : Int) ≤ p.ino ∧ p.ino ≤ 9223372036854775807)) (pN (pN (pN (headP p) p.op 1) p.errno 1) p.ino 1) = (pN (pN (pN (headP p) p.op 1) p.errno 1) p.ino 1) from gd_all HP.out.ino _ _)]; exact h2)
  have HT7 := Lib.hid (HT6.out.and t2)
  have BX7 := Lib.hid (BX6.out.turnW t2 HVF.out)
  have hb7 : base ≤ v7.heap.size := Nat.le_trans hb6 t2.size
  replace hlx := BX7.out.1
  clear h2 t2 c0 c18 BX6 HW6 HT6 hb6
  have c0 : v7.cell? ⟨x, 0, none⟩ = some (.int .i64 4) := by rw [← HK.out]; exact BX7.out.2 0 _ rfl
  have c27 := BX7.out.2 27 _ rfl
  go_wp2_with fail
  refine (rw_num HW7.out hb7 p.wrote HP.out.wrote 8 8 rfl (by decide) 0 9223372036854775807 (by have := HP.out.data; have := HP.out.path; have := HP.out.path2; omega)).mono ?_
  rintro e v8 ⟨rfl, bv8, h2, t2⟩
  have HW8 := Lib.hid (show RW v8 g base bv8 (pN (pN (pN (pN (headP p) p.op 1) p.errno 1) p.ino 1) p.wrote 8) ((((32 + 8) + 8) + 8) + 8) by rw [← (show gd (decide ((0 : Int) ≤ p.wrote ∧ p.wrote ≤ 9223372036854775807)) (pN (pN (pN (pN (headP p) p.op 1) p.errno 1) p.ino 1) p.wrote 8) = (pN (pN (pN (pN (headP p) p.op 1) p.errno 1) p.ino 1) p.wrote 8) from gd_all HP.out.wrote _ _)]; exact h2)
  have HT8 := Lib.hid (HT7.out.and t2)
  have BX8 := Lib.hid (BX7.out.turnW t2 HVF.out)
  have hb8 : base ≤ v8.heap.size := Nat.le_trans hb7 t2.size
  replace hlx := BX8.out.1
  clear h2 t2 c0 c27 BX7 HW7 HT7 hb7
  have c0 : v8.cell? ⟨x, 0, none⟩ = some (.int .i64 4) := by rw [← HK.out]; exact BX8.out.2 0 _ rfl
  have c5 := BX8.out.2 5 _ rfl
  go_wp2_with fail
  refine (rw_num HW8.out hb8 p.at_ HP.out.at_ 4 4 rfl (by decide) 0 9223372036854775807 (by have := HP.out.data; have := HP.out.path; have := HP.out.path2; omega)).mono ?_
  rintro e v9 ⟨rfl, bv9, h2, t2⟩
  have HW9 := Lib.hid (show RW v9 g base bv9 (pN (pN (pN (pN (pN (headP p) p.op 1) p.errno 1) p.ino 1) p.wrote 8) p.at_ 4) (((((32 + 8) + 8) + 8) + 8) + 8) by rw [← (show gd (decide ((0 : Int) ≤ p.at_ ∧ p.at_ ≤ 9223372036854775807)) (pN (pN (pN (pN (pN (headP p) p.op 1) p.errno 1) p.ino 1) p.wrote 8) p.at_ 4) = (pN (pN (pN (pN (pN (headP p) p.op 1) p.errno 1) p.ino 1) p.wrote 8) p.at_ 4) from gd_all HP.out.at_ _ _)]; exact h2)
  have HT9 := Lib.hid (HT8.out.and t2)
  have BX9 := Lib.hid (BX8.out.turnW t2 HVF.out)
  have hb9 : base ≤ v9.heap.size := Nat.le_trans hb8 t2.size
  replace hlx := BX9.out.1
  clear h2 t2 c0 c5 BX8 HW8 HT8 hb8
  have c0 : v9.cell? ⟨x, 0, none⟩ = some (.int .i64 4) := by rw [← HK.out]; exact BX9.out.2 0 _ rfl
  have c24 := BX9.out.2 24 _ rfl
  go_wp2_with fail
  refine (rw_num HW9.out hb9 p.ikind HP.out.ikind 1 1 rfl (by decide) 0 9223372036854775807 (by have := HP.out.data; have := HP.out.path; have := HP.out.path2; omega)).mono ?_
  rintro e v10 ⟨rfl, bv10, h2, t2⟩
  have HW10 := Lib.hid (show RW v10 g base bv10 (pN (pN (pN (pN (pN (pN (headP p) p.op 1) p.errno 1) p.ino 1) p.wrote 8) p.at_ 4) p.ikind 1) ((((((32 + 8) + 8) + 8) + 8) + 8) + 8) by rw [← (show gd (decide ((0 : Int) ≤ p.ikind ∧ p.ikind ≤ 9223372036854775807)) (pN (pN (pN (pN (pN (pN (headP p) p.op 1) p.errno 1) p.ino 1) p.wrote 8) p.at_ 4) p.ikind 1) = (pN (pN (pN (pN (pN (pN (headP p) p.op 1) p.errno 1) p.ino 1) p.wrote 8) p.at_ 4) p.ikind 1) from gd_all HP.out.ikind _ _)]; exact h2)
  have HT10 := Lib.hid (HT9.out.and t2)
  have BX10 := Lib.hid (BX9.out.turnW t2 HVF.out)
  have hb10 : base ≤ v10.heap.size := Nat.le_trans hb9 t2.size
  replace hlx := BX10.out.1
  clear h2 t2 c0 c24 BX9 HW9 HT9 hb9
  have c0 : v10.cell? ⟨x, 0, none⟩ = some (.int .i64 4) := by rw [← HK.out]; exact BX10.out.2 0 _ rfl
  have c25 := BX10.out.2 25 _ rfl
  go_wp2_with fail
  refine (rw_num HW10.out hb10 p.ilinks HP.out.ilinks 1 1 rfl (by decide) 0 9223372036854775807 (by have := HP.out.data; have := HP.out.path; have := HP.out.path2; omega)).mono ?_
  rintro e v11 ⟨rfl, bv11, h2, t2⟩
  have HW11 := Lib.hid (show RW v11 g base bv11 (pN (pN (pN (pN (pN (pN (pN (headP p) p.op 1) p.errno 1) p.ino 1) p.wrote 8) p.at_ 4) p.ikind 1) p.ilinks 1) (((((((32 + 8) + 8) + 8) + 8) + 8) + 8) + 8) by rw [← (show gd (decide ((0 : Int) ≤ p.ilinks ∧ p.ilinks ≤ 9223372036854775807)) (pN (pN (pN (pN (pN (pN (pN (headP p) p.op 1) p.errno 1) p.ino 1) p.wrote 8) p.at_ 4) p.ikind 1) p.ilinks 1) = (pN (pN (pN (pN (pN (pN (pN (headP p) p.op 1) p.errno 1) p.ino 1) p.wrote 8) p.at_ 4) p.ikind 1) p.ilinks 1) from gd_all HP.out.ilinks _ _)]; exact h2)
  have HT11 := Lib.hid (HT10.out.and t2)
  have BX11 := Lib.hid (BX10.out.turnW t2 HVF.out)
  have hb11 : base ≤ v11.heap.size := Nat.le_trans hb10 t2.size
  replace hlx := BX11.out.1
  clear h2 t2 c0 c25 BX10 HW10 HT10 hb10
  have c0 : v11.cell? ⟨x, 0, none⟩ = some (.int .i64 4) := by rw [← HK.out]; exact BX11.out.2 0 _ rfl
  have c26 := BX11.out.2 26 _ rfl
  go_wp2_with fail
  refine (rw_num HW11.out hb11 p.isize HP.out.isize 2 2 rfl (by decide) 0 9223372036854775807 (by have := HP.out.data; have := HP.out.path; have := HP.out.path2; omega)).mono ?_
  rintro e v12 ⟨rfl, bv12, h2, t2⟩
  have HW12 := Lib.hid (show RW v12 g base bv12 (pN (pN (pN (pN (pN (pN (pN (pN (headP p) p.op 1) p.errno 1) p.ino 1) p.wrote 8) p.at_ 4) p.ikind 1) p.ilinks 1) p.isize 2) ((((((((32 + 8) + 8) + 8) + 8) + 8) + 8) + 8) + 8) by rw [← (show gd (decide ((0 : Int) ≤ p.isize ∧ p.isize ≤ 9223372036854775807)) (pN (pN (pN (pN (pN (pN (pN (pN (headP p) p.op 1) p.errno 1) p.ino 1) p.wrote 8) p.at_ 4) p.ikind 1) p.ilinks 1) p.isize 2) = (pN (pN (pN (pN (pN (pN (pN (pN (headP p) p.op 1) p.errno 1) p.ino 1) p.wrote 8) p.at_ 4) p.ikind 1) p.ilinks 1) p.isize 2) from gd_all HP.out.isize _ _)]; exact h2)
  have HT12 := Lib.hid (HT11.out.and t2)
  have BX12 := Lib.hid (BX11.out.turnW t2 HVF.out)
  have hb12 : base ≤ v12.heap.size := Nat.le_trans hb11 t2.size
  replace hlx := BX12.out.1
  clear h2 t2 c0 c26 BX11 HW11 HT11 hb11
  have c0 : v12.cell? ⟨x, 0, none⟩ = some (.int .i64 4) := by rw [← HK.out]; exact BX12.out.2 0 _ rfl
  have c28 := BX12.out.2 28 _ rfl
  go_wp2_with fail
  refine (rw_num HW12.out hb12 p.nkind HP.out.nkind 1 1 rfl (by decide) 0 9223372036854775807 (by have := HP.out.data; have := HP.out.path; have := HP.out.path2; omega)).mono ?_
  rintro e v13 ⟨rfl, bv13, h2, t2⟩
  have HW13 := Lib.hid (show RW v13 g base bv13 (pN (pN (pN (pN (pN (pN (pN (pN (pN (headP p) p.op 1) p.errno 1) p.ino 1) p.wrote 8) p.at_ 4) p.ikind 1) p.ilinks 1) p.isize 2) p.nkind 1) (((((((((32 + 8) + 8) + 8) + 8) + 8) + 8) + 8) + 8) + 8) by rw [← (show gd (decide ((0 : Int) ≤ p.nkind ∧ p.nkind ≤ 9223372036854775807)) (pN (pN (pN (pN (pN (pN (pN (pN (pN (headP p) p.op 1) p.errno 1) p.ino 1) p.wrote 8) p.at_ 4) p.ikind 1) p.ilinks 1) p.isize 2) p.nkind 1) = (pN (pN (pN (pN (pN (pN (pN (pN (pN (headP p) p.op 1) p.errno 1) p.ino 1) p.wrote 8) p.at_ 4) p.ikind 1) p.ilinks 1) p.isize 2) p.nkind 1) from gd_all HP.out.nkind _ _)]; exact h2)
  have HT13 := Lib.hid (HT12.out.and t2)
  have BX13 := Lib.hid (BX12.out.turnW t2 HVF.out)
  have hb13 : base ≤ v13.heap.size := Nat.le_trans hb12 t2.size
  replace hlx := BX13.out.1
  clear h2 t2 c0 c28 BX12 HW12 HT12 hb12
  have c0 : v13.cell? ⟨x, 0, none⟩ = some (.int .i64 4) := by rw [← HK.out]; exact BX13.out.2 0 _ rfl
  have c29 := BX13.out.2 29 _ rfl
  go_wp2_with fail
  refine (rw_num HW13.out hb13 p.nlinks HP.out.nlinks 1 1 rfl (by decide) 0 9223372036854775807 (by have := HP.out.data; have := HP.out.path; have := HP.out.path2; omega)).mono ?_
  rintro e v14 ⟨rfl, bv14, h2, t2⟩
  have HW14 := Lib.hid (show RW v14 g base bv14 (pN (pN (pN (pN (pN (pN (pN (pN (pN (pN (headP p) p.op 1) p.errno 1) p.ino 1) p.wrote 8) p.at_ 4) p.ikind 1) p.ilinks 1) p.isize 2) p.nkind 1) p.nlinks 1) ((((((((((32 + 8) + 8) + 8) + 8) + 8) + 8) + 8) + 8) + 8) + 8) by rw [← (show gd (decide ((0 : Int) ≤ p.nlinks ∧ p.nlinks ≤ 9223372036854775807)) (pN (pN (pN (pN (pN (pN (pN (pN (pN (pN (headP p) p.op 1) p.errno 1) p.ino 1) p.wrote 8) p.at_ 4) p.ikind 1) p.ilinks 1) p.isize 2) p.nkind 1) p.nlinks 1) = (pN (pN (pN (pN (pN (pN (pN (pN (pN (pN (headP p) p.op 1) p.errno 1) p.ino 1) p.wrote 8) p.at_ 4) p.ikind 1) p.ilinks 1) p.isize 2) p.nkind 1) p.nlinks 1) from gd_all HP.out.nlinks _ _)]; exact h2)
  have HT14 := Lib.hid (HT13.out.and t2)
  have BX14 := Lib.hid (BX13.out.turnW t2 HVF.out)
  have hb14 : base ≤ v14.heap.size := Nat.le_trans hb13 t2.size
  replace hlx := BX14.out.1
  clear h2 t2 c0 c29 BX13 HW13 HT13 hb13
  have c0 : v14.cell? ⟨x, 0, none⟩ = some (.int .i64 4) := by rw [← HK.out]; exact BX14.out.2 0 _ rfl
  have c30 := BX14.out.2 30 _ rfl
  go_wp2_with fail
  refine (rw_num HW14.out hb14 p.nsize HP.out.nsize 2 2 rfl (by decide) 0 9223372036854775807 (by have := HP.out.data; have := HP.out.path; have := HP.out.path2; omega)).mono ?_
  rintro e v15 ⟨rfl, bv15, h2, t2⟩
  have HW15 := Lib.hid (show RW v15 g base bv15 (pN (pN (pN (pN (pN (pN (pN (pN (pN (pN (pN (headP p) p.op 1) p.errno 1) p.ino 1) p.wrote 8) p.at_ 4) p.ikind 1) p.ilinks 1) p.isize 2) p.nkind 1) p.nlinks 1) p.nsize 2) (((((((((((32 + 8) + 8) + 8) + 8) + 8) + 8) + 8) + 8) + 8) + 8) + 8) by rw [← (show gd (decide ((0 : Int) ≤ p.nsize ∧ p.nsize ≤ 9223372036854775807)) (pN (pN (pN (pN (pN (pN (pN (pN (pN (pN (pN (headP p) p.op 1) p.errno 1) p.ino 1) p.wrote 8) p.at_ 4) p.ikind 1) p.ilinks 1) p.isize 2) p.nkind 1) p.nlinks 1) p.nsize 2) = (pN (pN (pN (pN (pN (pN (pN (pN (pN (pN (pN (headP p) p.op 1) p.errno 1) p.ino 1) p.wrote 8) p.at_ 4) p.ikind 1) p.ilinks 1) p.isize 2) p.nkind 1) p.nlinks 1) p.nsize 2) from gd_all HP.out.nsize _ _)]; exact h2)
  have HT15 := Lib.hid (HT14.out.and t2)
  have BX15 := Lib.hid (BX14.out.turnW t2 HVF.out)
  have hb15 : base ≤ v15.heap.size := Nat.le_trans hb14 t2.size
  replace hlx := BX15.out.1
  clear h2 t2 c0 c30 BX14 HW14 HT14 hb14
  have c0 : v15.cell? ⟨x, 0, none⟩ = some (.int .i64 4) := by rw [← HK.out]; exact BX15.out.2 0 _ rfl
  obtain ⟨oB, hoB⟩ : ∃ z, z = (pN (pN (pN (pN (pN (pN (pN (pN (pN (pN (pN (headP p) p.op 1) p.errno 1) p.ino 1) p.wrote 8) p.at_ 4) p.ikind 1) p.ilinks 1) p.isize 2) p.nkind 1) p.nlinks 1) p.nsize 2) := ⟨_, rfl⟩
  have HOB := Lib.hid hoB
  rw [← hoB] at HW15
  clear hoB
  go_wp2_with fail
  go_loopw [5] (fun i wr => BwInv v15 wr g base oB (blkP p) (((((((((((32 + 8) + 8) + 8) + 8) + 8) + 8) + 8) + 8) + 8) + 8) + 8) i) (fun i _ => 4 - (intOf i).toNat)
  case atStart => exact ⟨0, rfl, by decide, bv15, HW15.out, Turn.refl _ _⟩
  case round =>
    obtain ⟨k, rfl, hk, bvk, hws, ht⟩ := hrel
    by_cases hlt : k < 4
    · obtain ⟨n, hn, cn⟩ := blkP_cell (BX15.out.turnW ht HVF.out) hlt
      have HN := Lib.hid (blkP_ok HP.out hn)
      have HST := Lib.hid (show pNs oB ((blkP p).take (k + 1)) 1 = gd (decide ((0 : Int) ≤ n ∧ n ≤ 9223372036854775807)) (pN (pNs oB ((blkP p).take k) 1) n 1) by rw [gd_all (blkP_ok HP.out hn), take_snoc hn, pNs_snoc])
      have HW := Lib.hid hws
      have HT := Lib.hid ht
      have hbk : base ≤ wr.heap.size := Nat.le_trans hb15 ht.size
      have hlxk : x < wr.heap.size := Nat.lt_of_lt_of_le hlx ht.size
      clear hws ht hn c0
      go_wp2_with fail
      refine (rw_num HW.out hbk n HN.out 1 1 rfl (by decide) 0 9223372036854775807 (by omega)).mono ?_
      rintro e w5 ⟨rfl, bv5, h5, t5⟩
      have X : BwInv v15 w5 g base oB (blkP p) (((((((((((32 + 8) + 8) + 8) + 8) + 8) + 8) + 8) + 8) + 8) + 8) + 8) (.int .i64 ((k : Int) + 1)) := ⟨k + 1, by simp, hlt, bv5, by rw [HST.out]; exact h5.mono (by omega), HT.out.and t5⟩
      have HX5 := Lib.hid X
      clear X h5 t5 cn
      go_wp2_with fail
      go_roundw
      have e5 : wrap64 ((k : Int) + 1) = (k : Int) + 1 := IntWalk.wrap64_in _ (by omega)
      case rel => (try rw [e5]); first | exact HX5.out | ((repeat apply Exists.intro); exact HX5.out) | ((repeat apply Exists.intro); refine ⟨HX5.out, ?_⟩; rfl)
      case measure => (have e5 : wrap64 ((k : Int) + 1) = (k : Int) + 1 := IntWalk.wrap64_in _ (by omega)); first | exact measV hlt | (rw [e5]; exact measV hlt)
    · obtain rfl : k = 4 := by omega
      have HW16 := Lib.hid (show RW wr g base bvk (bRTold0 p (headP p)) ((((((((((((32 + 8) + 8) + 8) + 8) + 8) + 8) + 8) + 8) + 8) + 8) + 8) + 32) by have h := hws; rw [HOB.out] at h; exact h)
      have HT16 := Lib.hid (HT15.out.and ht)
      have BX16 := Lib.hid (BX15.out.turnW ht HVF.out)
      have hb16 : base ≤ wr.heap.size := Nat.le_trans hb15 ht.size
      replace hlx := BX16.out.1
      obtain ⟨v16, hv⟩ : ∃ z, z = wr := ⟨_, rfl⟩
      rw [← hv] at HW16 HT16 BX16 hb16 hlx ⊢
      obtain ⟨oC, hoC⟩ : ∃ z, z = bRTold0 p (headP p) := ⟨_, rfl⟩
      have HOC := Lib.hid hoC
      rw [← hoC] at HW16
      clear hws ht hv hoC HW15 BX15 HT15 hb15 c0 hlt hk
      have c0 : v16.cell? ⟨x, 0, none⟩ = some (.int .i64 4) := by rw [← HK.out]; exact BX16.out.2 0 _ rfl
      have c23 := BX16.out.2 23 _ rfl
      go_wp2_with fail
      refine (rw_num HW16.out hb16 (m : Int) ⟨by omega, by omega⟩ 1 1 rfl (by decide) 0 16 (by omega)).mono ?_
      rintro e v17 ⟨rfl, bv17, h2, t2⟩
      have HW17 := Lib.hid (show RW v17 g base bv17 (pN (gd (decide (m ≤ 16)) oC) (m : Nat) 1) (((((((((((((32 + 8) + 8) + 8) + 8) + 8) + 8) + 8) + 8) + 8) + 8) + 8) + 32) + 8) by rw [← (show gd (decide ((0 : Int) ≤ (m : Int) ∧ (m : Int) ≤ 16)) (pN oC (m : Int) 1) = pN (gd (decide (m ≤ 16)) oC) (m : Nat) 1 from gd_num _ _ _ _ _ _ (by rw [Bool.eq_iff_iff, decide_eq_true_iff, decide_eq_true_iff]; omega))]; exact h2)
      have HT17 := Lib.hid (HT16.out.and t2)
      have BX17 := Lib.hid (BX16.out.turnW t2 HVF.out)
      have hb17 : base ≤ v17.heap.size := Nat.le_trans hb16 t2.size
      replace hlx := BX17.out.1
      clear h2 t2 c0 c23 BX16 HW16 HT16 hb16
      have c0 : v17.cell? ⟨x, 0, none⟩ = some (.int .i64 4) := by rw [← HK.out]; exact BX17.out.2 0 _ rfl
      have c23 := BX17.out.2 23 _ rfl
      obtain ⟨oD, hoD⟩ : ∃ z, z = (pN (gd (decide (m ≤ 16)) oC) (m : Nat) 1) := ⟨_, rfl⟩
      have HOD := Lib.hid hoD
      rw [← hoD] at HW17
      have HR5 := Lib.hid (HR2.out.turnW HT17.out (fun hn q hq => VF.off (HR0.out.ne hwb hn q hq) (by obtain ⟨b, o, e, hb, -⟩ := HR0.out.2.2 hn; rw [e] at hq; injection hq with hq; subst hq; show b < base; omega)))
      have HNV := Lib.hid (show 0 < m → ∀ q, A = some q → ¬ VF g base q.block from fun hn q hq => VF.off (HR0.out.ne hwb hn q hq) (by obtain ⟨b, o, e, hb, -⟩ := HR0.out.2.2 hn; rw [e] at hq; injection hq with hq; subst hq; show b < base; omega))
      clear hoD
      go_wp2_with fail
      go_loopw [6] (fun i wr => NwInv v17 wr g base oD p.names (((((((((((((32 + 8) + 8) + 8) + 8) + 8) + 8) + 8) + 8) + 8) + 8) + 8) + 32) + 8) m i) (fun i _ => m - (intOf i).toNat)
      case atStart => exact ⟨0, rfl, Nat.zero_le _, bv17, HW17.out, Turn.refl _ _⟩
      case round =>
        obtain ⟨k, rfl, hk, bvk, hws, ht⟩ := hrel
        have c23r := Turn.cellW ht c23 HVF.out
        by_cases hlt : k < m
        · obtain ⟨b, o1, r, hrk, rfl, hbb, cr⟩ := HR5.out.at_ hlt
          have cr' := Turn.cellW ht cr (show ¬ VF g base b from HNV.out (by omega) ⟨b, o1, none⟩ rfl)
          have hrs : r.size ≤ 1048576 := HP.out.names.2 r (List.mem_of_getElem? hrk)
          have HST := Lib.hid (show pTs oD (p.names.take (k + 1)) = pT (pTs oD (p.names.take k)) r 1 12 by rw [take_snoc hrk, pTs_snoc])
          have HW := Lib.hid hws
          have HT := Lib.hid ht
          have hbk : base ≤ wr.heap.size := Nat.le_trans hb17 ht.size
          have hlxk : x < wr.heap.size := Nat.lt_of_lt_of_le hlx ht.size
          clear hws ht cr hrk c23 c0
          go_wp2_with fail
          refine (rw_text HW.out hbk r (by omega) 1 1 rfl (by decide) 12 (by omega)).mono ?_
          rintro e w5 ⟨rfl, bv5, h5, t5⟩
          have X : NwInv v17 w5 g base oD p.names (((((((((((((32 + 8) + 8) + 8) + 8) + 8) + 8) + 8) + 8) + 8) + 8) + 8) + 32) + 8) m (.int .i64 ((k : Int) + 1)) := ⟨k + 1, by simp, hlt, bv5, by rw [HST.out]; exact h5.mono (by omega), HT.out.and t5⟩
          have HX5 := Lib.hid X
          clear X h5 t5 cr' c23r
          go_wp2_with fail
          go_roundw
          have e5 : wrap64 ((k : Int) + 1) = (k : Int) + 1 := IntWalk.wrap64_in _ (by omega)
          case rel => (try rw [e5]); first | exact HX5.out | ((repeat apply Exists.intro); exact HX5.out) | ((repeat apply Exists.intro); refine ⟨HX5.out, ?_⟩; rfl)
          case measure => (have e5 : wrap64 ((k : Int) + 1) = (k : Int) + 1 := IntWalk.wrap64_in _ (by omega)); first | exact measV hlt | (rw [e5]; exact measV hlt)
        · obtain rfl : m = k := by omega
          have el : p.names.take m = p.names := List.take_of_length_le (by rw [HM.out]; exact Nat.le_refl _)
          rw [el] at hws
          have HW18 := Lib.hid (show RW wr g base bvk (bRTold p (headP p)) ((((((((((((((32 + 8) + 8) + 8) + 8) + 8) + 8) + 8) + 8) + 8) + 8) + 8) + 32) + 8) + 1048584 * m) by
            have e1 : bRTold p (headP p) = pTs oD p.names := by
              unfold bRTold
              rw [HOD.out, HOC.out, ← HM.out]
            rw [e1]; exact hws)
          have HT18 := Lib.hid (HT17.out.and ht)
          have BX18 := Lib.hid (BX17.out.turnW ht HVF.out)
          have hb18 : base ≤ wr.heap.size := Nat.le_trans hb17 ht.size
          replace hlx := BX18.out.1
          obtain ⟨v18, hv⟩ : ∃ z, z = wr := ⟨_, rfl⟩
          rw [← hv] at HW18 HT18 BX18 hb18 hlx ⊢
          rw [← hv] at c23r
          clear hws ht hv HW17 BX17 HT17 hb17 c0 c23 hlt hk el
          have c0 : v18.cell? ⟨x, 0, none⟩ = some (.int .i64 4) := by rw [← HK.out]; exact BX18.out.2 0 _ rfl
          have HIN := Lib.hid (show (bRTold p (headP p)) = innerP p from ((kind4 HK.out).1).symm)
          obtain ⟨oE, hoE⟩ : ∃ z, z = (bRTold p (headP p)) := ⟨_, rfl⟩
          rw [← hoE] at HW18 HIN
          clear hoE
          have HRZ := HR2.out.turnW HT18.out (fun hn q hq => VF.off (HR0.out.ne hwb hn q hq) (by obtain ⟨b, o, e, hb, -⟩ := HR0.out.2.2 hn; rw [e] at hq; injection hq with hq; subst hq; show b < base; omega))
          rw [HM.out] at HRZ
          have hcall := m_others (c := c) p HRZ (by rw [← HM.out]; exact h300)
          rw [← HM.out] at hcall
          clear HRZ
          go_upto_region 46 with (fail)
          refine wp_region_list ?_
          refine wpList_loadRow rfl 36 (.tmp 1) rfl (some 195) rfl x rfl (p.cells (.slice A m c)) _ BX18.out Try.underlying36 rfl pk_size ?_
          go_simp
          refine wpList_callC rfl (some 196) rfl 91 #[.agg (p.cells (.slice A m c)).toArray] (by first | rfl | go_simp) _ hcall (fun e w' h => ⟨_, h.1⟩) ?_
          rintro v w9 ⟨he, g9⟩
          obtain ⟨bb, hbb⟩ : ∃ z, z = decide (p = normP p) := ⟨_, rfl⟩
          rw [← hbb] at he
          obtain rfl : v = .bool bb := by injection he
          have HAN := Lib.hid (inn_bool HIN.out hbb)
          have HW9 := Lib.hid (HW18.out.keep g9)
          have HG9 := Lib.hid (show Grow w w9 from HG2.out.low ((HT18.out.low (B := w.heap.size) (fun i e => by rcases e with e | e <;> omega) HG2.out.size).trans (Below.mono g9 (by have := HT18.out.size; have := HG2.out.size; omega))))
          clear he hbb g9 hcall c0 HW18 HT18 BX18
          obtain ⟨A9, n9, c9, bs9, hbv, hown9, hn9, hl9⟩ := HW9.out.row
          subst hbv
          obtain ⟨d0, d1⟩ := HW9.out.blk.1.c2
          obtain ⟨fl, hfl⟩ : ∃ z, z = oE.isNone := ⟨_, rfl⟩
          rw [← hfl] at d1 HAN
          have HO9 := Lib.hid (show Own w9 w.heap.size A9 n9 c9 bs9 from hown9.low (by omega))
          have HL9 := Lib.hid (show ∀ l, innerP p = some l → l = bs9 from fun l hl => hl9 l (HIN.out.trans hl))
          have HN9 := Lib.hid (show n9 ≤ 4000000000000 by have := HP.out.data; have := HP.out.path; have := HP.out.path2; omega)
          clear hfl hown9 hn9 hl9
          cases fl with
          | true =>
            go_wp2_with fail
            go_quiet (fail)
            go_wp2_with fail
            go_ret2
            have hgq : Grow w9 (w9.drewN nq) := (Grow.refl _).drewN _
            exact ⟨⟨A9, n9, c9, bs9, by rw [HAN.out]; rfl, ⟨HO9.out.1, HO9.out.2.1, row_turnW HO9.out.2.2 (Turn.grow hgq (fun _ => False)) (fun _ _ q => q)⟩, HN9.out, HL9.out⟩, HG9.out.trans hgq⟩
          | false =>
            go_wp2_with fail
            go_quiet (fail)
            go_wp2_with fail
            go_ret2
            have hgq : Grow w9 (w9.drewN nq) := (Grow.refl _).drewN _
            exact ⟨⟨A9, n9, c9, bs9, by rw [HAN.out]; rfl, ⟨HO9.out.1, HO9.out.2.1, row_turnW HO9.out.2.2 (Turn.grow hgq (fun _ => False)) (fun _ _ q => q)⟩, HN9.out, HL9.out⟩, HG9.out.trans hgq⟩
end Go.Proofs.Ytdlcpfgogjcciaa
