/- The walk of the statement WireOne. No statement of the seat is proved here. -/
import Derived.Test.YtgjcpchlijpjmaaZ16
namespace Go.Proofs.Ytgjcpchlijpjmaa
open Go.RowKit Go.Great

set_option maxHeartbeats 16000000 in
set_option maxRecDepth 8000 in
theorem law_WireOne (p q : PK) (A A' : Option Addr) (m cc m' cc' : Nat) (W : World) (hr : RS W A m p.names) (hr' : RS W A' m' q.names) (hp : p.nums) (hq : q.nums) :
    Calls Try.prog 7 #[.agg (p.cells (.slice A m cc)).toArray, .agg (q.cells (.slice A' m' cc')).toArray] W fun e w' => e = .returned (.bool true) ∧ Below W.heap.size W w' := by
  have HR0 := Lib.hid hr
  have HR1 := Lib.hid hr'
  have HNUM := Lib.hid hp
  have HNUQ := Lib.hid hq
  clear hr hr' hp hq
  rw [show (p.cells (.slice A m cc)).toArray = #[.int .i64 p.kind, .int .i64 p.client, .int .i64 p.epoch, .int .i64 p.seq, .int .i64 p.op, .int .i64 p.at_, .int .i64 p.n, .string p.data, .int .i64 p.old, .int .i64 p.new, .int .i64 p.ckind, .string p.path, .string p.path2, .int .i64 p.flags, .int .i64 p.cfd, .int .i64 p.coff, .int .i64 p.cn, .string p.cdata, .int .i64 p.ino, .int .i64 p.errno, .int .i64 p.rerrno, .int .i64 p.rfd, .string p.rdata, .slice A m cc, .int .i64 p.ikind, .int .i64 p.ilinks, .int .i64 p.isize, .int .i64 p.wrote, .int .i64 p.nkind, .int .i64 p.nlinks, .int .i64 p.nsize, .int .i64 p.b0, .int .i64 p.b1, .int .i64 p.b2, .int .i64 p.b3, .int .i64 p.o0, .int .i64 p.o1, .int .i64 p.o2, .int .i64 p.o3, .int .i64 p.o4, .int .i64 p.o5, .int .i64 p.o6, .int .i64 p.o7] from rfl, show (q.cells (.slice A' m' cc')).toArray = #[.int .i64 q.kind, .int .i64 q.client, .int .i64 q.epoch, .int .i64 q.seq, .int .i64 q.op, .int .i64 q.at_, .int .i64 q.n, .string q.data, .int .i64 q.old, .int .i64 q.new, .int .i64 q.ckind, .string q.path, .string q.path2, .int .i64 q.flags, .int .i64 q.cfd, .int .i64 q.coff, .int .i64 q.cn, .string q.cdata, .int .i64 q.ino, .int .i64 q.errno, .int .i64 q.rerrno, .int .i64 q.rfd, .string q.rdata, .slice A' m' cc', .int .i64 q.ikind, .int .i64 q.ilinks, .int .i64 q.isize, .int .i64 q.wrote, .int .i64 q.nkind, .int .i64 q.nlinks, .int .i64 q.nsize, .int .i64 q.b0, .int .i64 q.b1, .int .i64 q.b2, .int .i64 q.b3, .int .i64 q.o0, .int .i64 q.o1, .int .i64 q.o2, .int .i64 q.o3, .int .i64 q.o4, .int .i64 q.o5, .int .i64 q.o6, .int .i64 q.o7] from rfl]
  go_enter Try.func7, Try.ntmps7
  go_upto_region 1 with (fail)
  have G1 := ((Grow.refl W).alloc (.cells #[.int .i64 p.kind, .int .i64 p.client, .int .i64 p.epoch, .int .i64 p.seq, .int .i64 p.op, .int .i64 p.at_, .int .i64 p.n, .string p.data, .int .i64 p.old, .int .i64 p.new, .int .i64 p.ckind, .string p.path, .string p.path2, .int .i64 p.flags, .int .i64 p.cfd, .int .i64 p.coff, .int .i64 p.cn, .string p.cdata, .int .i64 p.ino, .int .i64 p.errno, .int .i64 p.rerrno, .int .i64 p.rfd, .string p.rdata, .slice A m cc, .int .i64 p.ikind, .int .i64 p.ilinks, .int .i64 p.isize, .int .i64 p.wrote, .int .i64 p.nkind, .int .i64 p.nlinks, .int .i64 p.nsize, .int .i64 p.b0, .int .i64 p.b1, .int .i64 p.b2, .int .i64 p.b3, .int .i64 p.o0, .int .i64 p.o1, .int .i64 p.o2, .int .i64 p.o3, .int .i64 p.o4, .int .i64 p.o5, .int .i64 p.o6, .int .i64 p.o7] 35)).alloc (.cells #[.int .i64 q.kind, .int .i64 q.client, .int .i64 q.epoch, .int .i64 q.seq, .int .i64 q.op, .int .i64 q.at_, .int .i64 q.n, .string q.data, .int .i64 q.old, .int .i64 q.new, .int .i64 q.ckind, .string q.path, .string q.path2, .int .i64 q.flags, .int .i64 q.cfd, .int .i64 q.coff, .int .i64 q.cn, .string q.cdata, .int .i64 q.ino, .int .i64 q.errno, .int .i64 q.rerrno, .int .i64 q.rfd, .string q.rdata, .slice A' m' cc', .int .i64 q.ikind, .int .i64 q.ilinks, .int .i64 q.isize, .int .i64 q.wrote, .int .i64 q.nkind, .int .i64 q.nlinks, .int .i64 q.nsize, .int .i64 q.b0, .int .i64 q.b1, .int .i64 q.b2, .int .i64 q.b3, .int .i64 q.o0, .int .i64 q.o1, .int .i64 q.o2, .int .i64 q.o3, .int .i64 q.o4, .int .i64 q.o5, .int .i64 q.o6, .int .i64 q.o7] 35)
  have hb := (Row.new W 35 (p.cells (.slice A m cc)) #[.int .i64 p.kind, .int .i64 p.client, .int .i64 p.epoch, .int .i64 p.seq, .int .i64 p.op, .int .i64 p.at_, .int .i64 p.n, .string p.data, .int .i64 p.old, .int .i64 p.new, .int .i64 p.ckind, .string p.path, .string p.path2, .int .i64 p.flags, .int .i64 p.cfd, .int .i64 p.coff, .int .i64 p.cn, .string p.cdata, .int .i64 p.ino, .int .i64 p.errno, .int .i64 p.rerrno, .int .i64 p.rfd, .string p.rdata, .slice A m cc, .int .i64 p.ikind, .int .i64 p.ilinks, .int .i64 p.isize, .int .i64 p.wrote, .int .i64 p.nkind, .int .i64 p.nlinks, .int .i64 p.nsize, .int .i64 p.b0, .int .i64 p.b1, .int .i64 p.b2, .int .i64 p.b3, .int .i64 p.o0, .int .i64 p.o1, .int .i64 p.o2, .int .i64 p.o3, .int .i64 p.o4, .int .i64 p.o5, .int .i64 p.o6, .int .i64 p.o7] rfl).keep ((Grow.refl _).alloc (.cells #[.int .i64 q.kind, .int .i64 q.client, .int .i64 q.epoch, .int .i64 q.seq, .int .i64 q.op, .int .i64 q.at_, .int .i64 q.n, .string q.data, .int .i64 q.old, .int .i64 q.new, .int .i64 q.ckind, .string q.path, .string q.path2, .int .i64 q.flags, .int .i64 q.cfd, .int .i64 q.coff, .int .i64 q.cn, .string q.cdata, .int .i64 q.ino, .int .i64 q.errno, .int .i64 q.rerrno, .int .i64 q.rfd, .string q.rdata, .slice A' m' cc', .int .i64 q.ikind, .int .i64 q.ilinks, .int .i64 q.isize, .int .i64 q.wrote, .int .i64 q.nkind, .int .i64 q.nlinks, .int .i64 q.nsize, .int .i64 q.b0, .int .i64 q.b1, .int .i64 q.b2, .int .i64 q.b3, .int .i64 q.o0, .int .i64 q.o1, .int .i64 q.o2, .int .i64 q.o3, .int .i64 q.o4, .int .i64 q.o5, .int .i64 q.o6, .int .i64 q.o7] 35))
  have hb2 : Row ((W.alloc (.cells #[.int .i64 p.kind, .int .i64 p.client, .int .i64 p.epoch, .int .i64 p.seq, .int .i64 p.op, .int .i64 p.at_, .int .i64 p.n, .string p.data, .int .i64 p.old, .int .i64 p.new, .int .i64 p.ckind, .string p.path, .string p.path2, .int .i64 p.flags, .int .i64 p.cfd, .int .i64 p.coff, .int .i64 p.cn, .string p.cdata, .int .i64 p.ino, .int .i64 p.errno, .int .i64 p.rerrno, .int .i64 p.rfd, .string p.rdata, .slice A m cc, .int .i64 p.ikind, .int .i64 p.ilinks, .int .i64 p.isize, .int .i64 p.wrote, .int .i64 p.nkind, .int .i64 p.nlinks, .int .i64 p.nsize, .int .i64 p.b0, .int .i64 p.b1, .int .i64 p.b2, .int .i64 p.b3, .int .i64 p.o0, .int .i64 p.o1, .int .i64 p.o2, .int .i64 p.o3, .int .i64 p.o4, .int .i64 p.o5, .int .i64 p.o6, .int .i64 p.o7] 35)).alloc (.cells #[.int .i64 q.kind, .int .i64 q.client, .int .i64 q.epoch, .int .i64 q.seq, .int .i64 q.op, .int .i64 q.at_, .int .i64 q.n, .string q.data, .int .i64 q.old, .int .i64 q.new, .int .i64 q.ckind, .string q.path, .string q.path2, .int .i64 q.flags, .int .i64 q.cfd, .int .i64 q.coff, .int .i64 q.cn, .string q.cdata, .int .i64 q.ino, .int .i64 q.errno, .int .i64 q.rerrno, .int .i64 q.rfd, .string q.rdata, .slice A' m' cc', .int .i64 q.ikind, .int .i64 q.ilinks, .int .i64 q.isize, .int .i64 q.wrote, .int .i64 q.nkind, .int .i64 q.nlinks, .int .i64 q.nsize, .int .i64 q.b0, .int .i64 q.b1, .int .i64 q.b2, .int .i64 q.b3, .int .i64 q.o0, .int .i64 q.o1, .int .i64 q.o2, .int .i64 q.o3, .int .i64 q.o4, .int .i64 q.o5, .int .i64 q.o6, .int .i64 q.o7] 35)) (W.heap.size + 1) (q.cells (.slice A' m' cc')) := by
    have := Row.new (W.alloc (.cells #[.int .i64 p.kind, .int .i64 p.client, .int .i64 p.epoch, .int .i64 p.seq, .int .i64 p.op, .int .i64 p.at_, .int .i64 p.n, .string p.data, .int .i64 p.old, .int .i64 p.new, .int .i64 p.ckind, .string p.path, .string p.path2, .int .i64 p.flags, .int .i64 p.cfd, .int .i64 p.coff, .int .i64 p.cn, .string p.cdata, .int .i64 p.ino, .int .i64 p.errno, .int .i64 p.rerrno, .int .i64 p.rfd, .string p.rdata, .slice A m cc, .int .i64 p.ikind, .int .i64 p.ilinks, .int .i64 p.isize, .int .i64 p.wrote, .int .i64 p.nkind, .int .i64 p.nlinks, .int .i64 p.nsize, .int .i64 p.b0, .int .i64 p.b1, .int .i64 p.b2, .int .i64 p.b3, .int .i64 p.o0, .int .i64 p.o1, .int .i64 p.o2, .int .i64 p.o3, .int .i64 p.o4, .int .i64 p.o5, .int .i64 p.o6, .int .i64 p.o7] 35)) 35 (q.cells (.slice A' m' cc')) #[.int .i64 q.kind, .int .i64 q.client, .int .i64 q.epoch, .int .i64 q.seq, .int .i64 q.op, .int .i64 q.at_, .int .i64 q.n, .string q.data, .int .i64 q.old, .int .i64 q.new, .int .i64 q.ckind, .string q.path, .string q.path2, .int .i64 q.flags, .int .i64 q.cfd, .int .i64 q.coff, .int .i64 q.cn, .string q.cdata, .int .i64 q.ino, .int .i64 q.errno, .int .i64 q.rerrno, .int .i64 q.rfd, .string q.rdata, .slice A' m' cc', .int .i64 q.ikind, .int .i64 q.ilinks, .int .i64 q.isize, .int .i64 q.wrote, .int .i64 q.nkind, .int .i64 q.nlinks, .int .i64 q.nsize, .int .i64 q.b0, .int .i64 q.b1, .int .i64 q.b2, .int .i64 q.b3, .int .i64 q.o0, .int .i64 q.o1, .int .i64 q.o2, .int .i64 q.o3, .int .i64 q.o4, .int .i64 q.o5, .int .i64 q.o6, .int .i64 q.o7] rfl
    rwa [show (W.alloc (.cells #[.int .i64 p.kind, .int .i64 p.client, .int .i64 p.epoch, .int .i64 p.seq, .int .i64 p.op, .int .i64 p.at_, .int .i64 p.n, .string p.data, .int .i64 p.old, .int .i64 p.new, .int .i64 p.ckind, .string p.path, .string p.path2, .int .i64 p.flags, .int .i64 p.cfd, .int .i64 p.coff, .int .i64 p.cn, .string p.cdata, .int .i64 p.ino, .int .i64 p.errno, .int .i64 p.rerrno, .int .i64 p.rfd, .string p.rdata, .slice A m cc, .int .i64 p.ikind, .int .i64 p.ilinks, .int .i64 p.isize, .int .i64 p.wrote, .int .i64 p.nkind, .int .i64 p.nlinks, .int .i64 p.nsize, .int .i64 p.b0, .int .i64 p.b1, .int .i64 p.b2, .int .i64 p.b3, .int .i64 p.o0, .int .i64 p.o1, .int .i64 p.o2, .int .i64 p.o3, .int .i64 p.o4, .int .i64 p.o5, .int .i64 p.o6, .int .i64 p.o7] 35)).heap.size = W.heap.size + 1 by simp] at this
  obtain ⟨w1, hw1⟩ : ∃ z, z = (W.alloc (.cells #[.int .i64 p.kind, .int .i64 p.client, .int .i64 p.epoch, .int .i64 p.seq, .int .i64 p.op, .int .i64 p.at_, .int .i64 p.n, .string p.data, .int .i64 p.old, .int .i64 p.new, .int .i64 p.ckind, .string p.path, .string p.path2, .int .i64 p.flags, .int .i64 p.cfd, .int .i64 p.coff, .int .i64 p.cn, .string p.cdata, .int .i64 p.ino, .int .i64 p.errno, .int .i64 p.rerrno, .int .i64 p.rfd, .string p.rdata, .slice A m cc, .int .i64 p.ikind, .int .i64 p.ilinks, .int .i64 p.isize, .int .i64 p.wrote, .int .i64 p.nkind, .int .i64 p.nlinks, .int .i64 p.nsize, .int .i64 p.b0, .int .i64 p.b1, .int .i64 p.b2, .int .i64 p.b3, .int .i64 p.o0, .int .i64 p.o1, .int .i64 p.o2, .int .i64 p.o3, .int .i64 p.o4, .int .i64 p.o5, .int .i64 p.o6, .int .i64 p.o7] 35)).alloc (.cells #[.int .i64 q.kind, .int .i64 q.client, .int .i64 q.epoch, .int .i64 q.seq, .int .i64 q.op, .int .i64 q.at_, .int .i64 q.n, .string q.data, .int .i64 q.old, .int .i64 q.new, .int .i64 q.ckind, .string q.path, .string q.path2, .int .i64 q.flags, .int .i64 q.cfd, .int .i64 q.coff, .int .i64 q.cn, .string q.cdata, .int .i64 q.ino, .int .i64 q.errno, .int .i64 q.rerrno, .int .i64 q.rfd, .string q.rdata, .slice A' m' cc', .int .i64 q.ikind, .int .i64 q.ilinks, .int .i64 q.isize, .int .i64 q.wrote, .int .i64 q.nkind, .int .i64 q.nlinks, .int .i64 q.nsize, .int .i64 q.b0, .int .i64 q.b1, .int .i64 q.b2, .int .i64 q.b3, .int .i64 q.o0, .int .i64 q.o1, .int .i64 q.o2, .int .i64 q.o3, .int .i64 q.o4, .int .i64 q.o5, .int .i64 q.o6, .int .i64 q.o7] 35) := ⟨_, rfl⟩
  obtain ⟨x, hx⟩ : ∃ z, z = W.heap.size := ⟨_, rfl⟩
  obtain ⟨y, hy⟩ : ∃ z, z = x + 1 := ⟨_, rfl⟩
  rw [← hw1] at hb hb2 G1 ⊢
  rw [← hx] at hb hb2 ⊢
  rw [← hy] at hb2 ⊢
  obtain ⟨P0, hP0⟩ : ∃ z, z = Value.agg #[.int .i64 p.kind, .int .i64 p.client, .int .i64 p.epoch, .int .i64 p.seq, .int .i64 p.op, .int .i64 p.at_, .int .i64 p.n, .string p.data, .int .i64 p.old, .int .i64 p.new, .int .i64 p.ckind, .string p.path, .string p.path2, .int .i64 p.flags, .int .i64 p.cfd, .int .i64 p.coff, .int .i64 p.cn, .string p.cdata, .int .i64 p.ino, .int .i64 p.errno, .int .i64 p.rerrno, .int .i64 p.rfd, .string p.rdata, .slice A m cc, .int .i64 p.ikind, .int .i64 p.ilinks, .int .i64 p.isize, .int .i64 p.wrote, .int .i64 p.nkind, .int .i64 p.nlinks, .int .i64 p.nsize, .int .i64 p.b0, .int .i64 p.b1, .int .i64 p.b2, .int .i64 p.b3, .int .i64 p.o0, .int .i64 p.o1, .int .i64 p.o2, .int .i64 p.o3, .int .i64 p.o4, .int .i64 p.o5, .int .i64 p.o6, .int .i64 p.o7] := ⟨_, rfl⟩
  rw [← hP0]
  obtain ⟨Q0, hQ0⟩ : ∃ z, z = Value.agg #[.int .i64 q.kind, .int .i64 q.client, .int .i64 q.epoch, .int .i64 q.seq, .int .i64 q.op, .int .i64 q.at_, .int .i64 q.n, .string q.data, .int .i64 q.old, .int .i64 q.new, .int .i64 q.ckind, .string q.path, .string q.path2, .int .i64 q.flags, .int .i64 q.cfd, .int .i64 q.coff, .int .i64 q.cn, .string q.cdata, .int .i64 q.ino, .int .i64 q.errno, .int .i64 q.rerrno, .int .i64 q.rfd, .string q.rdata, .slice A' m' cc', .int .i64 q.ikind, .int .i64 q.ilinks, .int .i64 q.isize, .int .i64 q.wrote, .int .i64 q.nkind, .int .i64 q.nlinks, .int .i64 q.nsize, .int .i64 q.b0, .int .i64 q.b1, .int .i64 q.b2, .int .i64 q.b3, .int .i64 q.o0, .int .i64 q.o1, .int .i64 q.o2, .int .i64 q.o3, .int .i64 q.o4, .int .i64 q.o5, .int .i64 q.o6, .int .i64 q.o7] := ⟨_, rfl⟩
  rw [← hQ0]
  have HXx := Lib.hid hb
  have HXy := Lib.hid hb2
  have HQx := Lib.hid hx
  have HQy := Lib.hid hy
  have hlx : x < w1.heap.size := hb.1.1
  have hly : y < w1.heap.size := hb2.1.1
  have HLY := Lib.hid (show y < w1.heap.size from hly)
  replace HR0 := Lib.hid (HR0.out.grow G1)
  have HWx := Lib.hid (show ∀ n q, 0 < n → RS W A' n q → ∀ z, A' = some z → ¬ z.block = x from fun n q hn h z hz => h.ne (Nat.le_of_eq hx.symm) hn z hz)
  have HRa := HR1
  replace HR1 := Lib.hid (HR1.out.grow G1)
  have HB1 := Lib.hid G1
  clear hw1 hb hb2 hx hy hP0 hQ0 G1
  go_upto_region 1 with (fail)
  have hfew := few_l (c := cc) p HR0.out
  have hpok := fewP_ok HNUM.out
  obtain ⟨P, hP⟩ : ∃ z, z = fewP p := ⟨_, rfl⟩
  rw [← hP] at hfew hpok
  have HPP := Lib.hid hpok
  clear hP hpok
  refine wp_region_list ?_
  refine wpList_loadRow rfl 35 (.tmp 2) rfl (some 10) rfl x rfl (p.cells (.slice A m cc)) _ HXx.out.1 Try.underlying35 rfl pk_size ?_
  go_simp
  refine wpList_callC rfl (some 11) rfl 9 #[.agg (p.cells (.slice A m cc)).toArray] (by first | rfl | go_simp) _ hfew (fun e w' h => by obtain ⟨_, h, -⟩ := h; exact ⟨_, h⟩) ?_
  rintro v wf2 ⟨nv, he, g6, os6⟩
  obtain rfl : v = .agg (P.cells nv).toArray := by injection he
  go_simp
  refine wpList_storeRow rfl 35 (.tmp 2) (.tmp 11) rfl rfl x rfl (P.cells nv) (p.cells (.slice A m cc)) rfl (HXx.out.keep g6) rfl pk_size (PK.one _ os6.one) ?_
  intro w2 r8 t8 z8
  have OS8 : OS w2 w1.heap.size nv P.names := row_turnW os6 t8 (fun k e q => by have := (World.ownsRow.lt os6 k e).1; have q' : k = x := q; omega)
  obtain ⟨AP, cP, rfl, hrs⟩ := RS.of_OS OS8
  obtain ⟨kP, hk⟩ : ∃ z, z = P.names.length := ⟨_, rfl⟩
  rw [← hk] at hrs r8
  have HKP := Lib.hid hk
  replace HXx := Lib.hid r8
  have HRP := Lib.hid hrs
  have HNE := Lib.hid (show 0 < kP → ∀ z, AP = some z → w1.heap.size ≤ z.block from fun hn z hz => by
    subst hz
    exact (World.ownsRow.lt OS8 z.block rfl).1)
  replace hlx := r8.1.1
  have HGf2 := Lib.hid (show Turn (fun k => k = x) w1 w2 from (Turn.grow g6 _).and t8)
  clear he hfew g6 os6 OS8 hrs r8 t8 z8 hk
  replace HXy := Lib.hid (HXy.out.turnW HGf2.out (by have := HQy.out; omega))
  replace hly := HXy.out.1.1
  replace HR1 := Lib.hid (HR1.out.turnW HGf2.out (fun hn z hz => HRa.out.ne (Nat.le_of_eq HQx.out.symm) hn z hz))
  have HB2 := Lib.hid (show Grow W w2 from HB1.out.low (HGf2.out.low (B := W.heap.size) (fun i e => by have := HQx.out; have e' : i = x := e; omega) HB1.out.size))
  have HNP := HNE
  have hlyw : y < w1.heap.size := HLY.out
  clear HB1 HWx HNE
  go_upto_region 2 with (fail)
  have hfew := few_l (c := cc') q HR1.out
  have hpok := fewP_ok HNUQ.out
  obtain ⟨Q, hP⟩ : ∃ z, z = fewP q := ⟨_, rfl⟩
  rw [← hP] at hfew hpok
  have HPQ := Lib.hid hpok
  clear hP hpok
  refine wp_region_list ?_
  refine wpList_loadRow rfl 35 (.tmp 3) rfl (some 12) rfl y rfl (q.cells (.slice A' m' cc')) _ HXy.out.1 Try.underlying35 rfl pk_size ?_
  go_simp
  refine wpList_callC rfl (some 13) rfl 9 #[.agg (q.cells (.slice A' m' cc')).toArray] (by first | rfl | go_simp) _ hfew (fun e w' h => by obtain ⟨_, h, -⟩ := h; exact ⟨_, h⟩) ?_
  rintro v wf3 ⟨nv, he, g6, os6⟩
  obtain rfl : v = .agg (Q.cells nv).toArray := by injection he
  go_simp
  refine wpList_storeRow rfl 35 (.tmp 3) (.tmp 13) rfl rfl y rfl (Q.cells nv) (q.cells (.slice A' m' cc')) rfl (HXy.out.keep g6) rfl pk_size (PK.one _ os6.one) ?_
  intro w3 r8 t8 z8
  have OS8 : OS w3 w2.heap.size nv Q.names := row_turnW os6 t8 (fun k e q => by have := (World.ownsRow.lt os6 k e).1; have q' : k = y := q; omega)
  obtain ⟨AQ, cQ, rfl, hrs⟩ := RS.of_OS OS8
  obtain ⟨kQ, hk⟩ : ∃ z, z = Q.names.length := ⟨_, rfl⟩
  rw [← hk] at hrs r8
  have HKQ := Lib.hid hk
  replace HXy := Lib.hid r8
  have HRQ := Lib.hid hrs
  have HNE := Lib.hid (show 0 < kQ → ∀ z, AQ = some z → w2.heap.size ≤ z.block from fun hn z hz => by
    subst hz
    exact (World.ownsRow.lt OS8 z.block rfl).1)
  replace hly := r8.1.1
  have HGf3 := Lib.hid (show Turn (fun k => k = y) w2 w3 from (Turn.grow g6 _).and t8)
  clear he hfew g6 os6 OS8 hrs r8 t8 z8 hk
  replace HXx := Lib.hid (HXx.out.turnW HGf3.out (by have := HQy.out; omega))
  replace hlx := HXx.out.1.1
  have HB3 := Lib.hid (show Grow W w3 from HB2.out.low (HGf3.out.low (B := W.heap.size) (fun i e => by have := HQx.out; have := HQy.out; have e' : i = y := e; omega) HB2.out.size))
  have HOSp := HRP
  replace HRP := Lib.hid (HRP.out.turnW HGf3.out (fun hn z hz e => by have := HNP.out hn z hz; have e' : z.block = y := e; omega))
  clear HB2 HGf2 HGf3 HNE HNP HOSp
  go_upto_region 3 with (fail)
  have hput := w_putK (c := cP) P HPP.out HKP.out HRP.out
  refine wp_region_list ?_
  refine wpList_loadRow rfl 35 (.tmp 2) rfl (some 15) rfl x rfl (P.cells (.slice AP kP cP)) _ HXx.out.1 Try.underlying35 rfl pk_size ?_
  go_simp
  refine wpList_callC rfl (some 16) rfl 10 #[.agg (P.cells (.slice AP kP cP)).toArray] (by first | rfl | go_simp) _ hput (fun e w' h => by obtain ⟨_, _, _, h, -⟩ := h; exact ⟨_, h⟩) ?_
  rintro v w4 ⟨A4, n4, c4, he, ho, G4⟩
  obtain rfl : v = .tuple #[.slice A4 n4 c4, .int .i64 (putE P)] := by injection he
  have HO4 := Lib.hid (show Own w4 w3.heap.size A4 n4 c4 (putL P) from ho)
  replace HXx := Lib.hid (HXx.out.keep G4)
  replace HRP := Lib.hid (HRP.out.grow G4)
  replace HXy := Lib.hid (HXy.out.keep G4)
  replace HRQ := Lib.hid (HRQ.out.grow G4)
  clear he ho hput
  go_upto_region 4 with (fail)
  have hput := w_putK (c := cQ) Q HPQ.out HKQ.out HRQ.out
  refine wp_region_list ?_
  refine wpList_loadRow rfl 35 (.tmp 3) rfl (some 20) rfl y rfl (Q.cells (.slice AQ kQ cQ)) _ HXy.out.1 Try.underlying35 rfl pk_size ?_
  go_simp
  refine wpList_callC rfl (some 21) rfl 10 #[.agg (Q.cells (.slice AQ kQ cQ)).toArray] (by first | rfl | go_simp) _ hput (fun e w' h => by obtain ⟨_, _, _, h, -⟩ := h; exact ⟨_, h⟩) ?_
  rintro v w5 ⟨A5, n5, c5, he, ho, G5⟩
  obtain rfl : v = .tuple #[.slice A5 n5 c5, .int .i64 (putE Q)] := by injection he
  have HO5 := Lib.hid (show Own w5 w4.heap.size A5 n5 c5 (putL Q) from ho)
  replace HXx := Lib.hid (HXx.out.keep G5)
  replace HRP := Lib.hid (HRP.out.grow G5)
  replace HXy := Lib.hid (HXy.out.keep G5)
  replace HRQ := Lib.hid (HRQ.out.grow G5)
  replace HO4 := Lib.hid (HO4.out.keepW G5)
  clear he ho hput
  have HB5 := Lib.hid (Grow.trans (Grow.trans HB3.out G4) G5)
  clear G4 G5 HB3
  obtain ⟨pe, hpe⟩ : ∃ z, z = putE P := ⟨_, rfl⟩
  obtain ⟨qe, hqe⟩ : ∃ z, z = putE Q := ⟨_, rfl⟩
  rw [← hpe, ← hqe]
  have HPE := Lib.hid hpe
  have HQE := Lib.hid hqe
  clear hpe hqe
  by_cases hp0 : pe = 0
  · subst hp0
    by_cases hq0 : qe = 0
    · subst hq0
      go_upto_region 7 with (fail)
      have hsame := m_sameK (c := cP) (c' := cQ) P Q HKP.out HKQ.out HRP.out HRQ.out HPP.out HPQ.out
      refine wp_region_list ?_
      refine wpList_loadRow rfl 35 (.tmp 2) rfl (some 31) rfl x rfl (P.cells (.slice AP kP cP)) _ HXx.out.1 Try.underlying35 rfl pk_size ?_
      go_simp
      refine wpList_loadRow rfl 35 (.tmp 3) rfl (some 32) rfl y rfl (Q.cells (.slice AQ kQ cQ)) _ HXy.out.1 Try.underlying35 rfl pk_size ?_
      go_simp
      refine wpList_callC rfl (some 33) rfl 16 #[.agg (P.cells (.slice AP kP cP)).toArray, .agg (Q.cells (.slice AQ kQ cQ)).toArray] (by first | rfl | go_simp) _ hsame (fun e w' h => by obtain ⟨_, h, -⟩ := h; exact ⟨_, h⟩) ?_
      rintro v w6 ⟨b6, he, HB6, G6⟩
      obtain rfl : v = .bool b6 := by injection he
      replace HO4 := Lib.hid (HO4.out.keepW G6)
      replace HO5 := Lib.hid (HO5.out.keepW G6)
      clear he hsame
      have HB7 := Lib.hid (Grow.trans HB5.out G6)
      clear G6
      go_wp2_with fail
      refine (same_s HO4.out.sl HO5.out.sl).mono ?_
      rintro e w7 ⟨sb, rfl, hsb, k7, hw7⟩
      have HB8 := Lib.hid (Grow.trans HB7.out (show Grow w6 w7 by rw [hw7]; exact (Grow.refl _).drewN _))
      have hsame2 : sb = b6 := by rw [hsb.out, HB6.out]; exact put_one HPP.out HPQ.out HPE.out.symm HQE.out.symm
      subst hsame2
      have z1 : (sb == sb) = true := beq_self_eq_true sb
      clear hw7 hsb HB6
      go_wp2_with fail
      refine (lives7 _).mono ?_
      rintro e w8 ⟨rfl, g8⟩
      have HB9 := Lib.hid (Grow.trans HB8.out g8)
      clear g8
      go_wp2_with fail
      go_ret
      exact ⟨rfl, HB9.out⟩
    · obtain rfl : qe = 1 := by rw [HQE.out]; exact (putE_bad (by rw [← HQE.out]; exact hq0)).1
      go_wp2_with fail
      refine (lives7 _).mono ?_
      rintro e w8 ⟨rfl, g8⟩
      have HB9 := Lib.hid (Grow.trans HB5.out g8)
      clear g8
      go_wp2_with fail
      go_ret
      exact ⟨rfl, HB9.out⟩
  · obtain rfl : pe = 1 := by rw [HPE.out]; exact (putE_bad (by rw [← HPE.out]; exact hp0)).1
    go_wp2_with fail
    refine (lives7 _).mono ?_
    rintro e w8 ⟨rfl, g8⟩
    have HB9 := Lib.hid (Grow.trans HB5.out g8)
    clear g8
    go_wp2_with fail
    go_ret
    exact ⟨rfl, HB9.out⟩
end Go.Proofs.Ytgjcpchlijpjmaa
