/- The document's others: are the fields zero that a kind does not have? The document's writer: a number, a text. The document's Inner: words and lemmas. The document's Inner at kind 0. No statement of the seat is proved here. -/
import Derived.Test.YtdlcpfgogjcciaaZ17
import Derived.Test.YtdlcpfgogjcciaaZ11
import Derived.Test.YtdlcpfgogjcciaaZ08
import Derived.Test.YtdlcpfgogjcciaaZ03
namespace Go.Proofs.Ytdlcpfgogjcciaa
open Go.RowKit Go.Great

theorem m_sameC {w : World} (p q : PK) {A A' : Option Addr} {c c' : Nat} (hp : RS w A p.names.length p.names) (hq : RS w A' q.names.length q.names) (hp3 : p.names.length ≤ 1048576) (hq3 : q.names.length ≤ 1048576) :
    Calls Try.prog 18 #[.agg (p.cells (.slice A p.names.length c)).toArray, .agg (q.cells (.slice A' q.names.length c')).toArray] w fun e w' => e = .returned (.bool (decide (p = q))) ∧ Grow w w' := by
  rw [show (p.cells (.slice A p.names.length c)).toArray = #[.int .i64 p.kind, .int .i64 p.client, .int .i64 p.epoch, .int .i64 p.seq, .int .i64 p.op, .int .i64 p.at_, .int .i64 p.n, .string p.data, .int .i64 p.old, .int .i64 p.new, .int .i64 p.ckind, .string p.path, .string p.path2, .int .i64 p.flags, .int .i64 p.cfd, .int .i64 p.coff, .int .i64 p.cn, .string p.cdata, .int .i64 p.ino, .int .i64 p.errno, .int .i64 p.rerrno, .int .i64 p.rfd, .string p.rdata, .slice A p.names.length c, .int .i64 p.ikind, .int .i64 p.ilinks, .int .i64 p.isize, .int .i64 p.wrote, .int .i64 p.nkind, .int .i64 p.nlinks, .int .i64 p.nsize, .int .i64 p.b0, .int .i64 p.b1, .int .i64 p.b2, .int .i64 p.b3, .int .i64 p.o0, .int .i64 p.o1, .int .i64 p.o2, .int .i64 p.o3, .int .i64 p.o4, .int .i64 p.o5, .int .i64 p.o6, .int .i64 p.o7] from rfl, show (q.cells (.slice A' q.names.length c')).toArray = #[.int .i64 q.kind, .int .i64 q.client, .int .i64 q.epoch, .int .i64 q.seq, .int .i64 q.op, .int .i64 q.at_, .int .i64 q.n, .string q.data, .int .i64 q.old, .int .i64 q.new, .int .i64 q.ckind, .string q.path, .string q.path2, .int .i64 q.flags, .int .i64 q.cfd, .int .i64 q.coff, .int .i64 q.cn, .string q.cdata, .int .i64 q.ino, .int .i64 q.errno, .int .i64 q.rerrno, .int .i64 q.rfd, .string q.rdata, .slice A' q.names.length c', .int .i64 q.ikind, .int .i64 q.ilinks, .int .i64 q.isize, .int .i64 q.wrote, .int .i64 q.nkind, .int .i64 q.nlinks, .int .i64 q.nsize, .int .i64 q.b0, .int .i64 q.b1, .int .i64 q.b2, .int .i64 q.b3, .int .i64 q.o0, .int .i64 q.o1, .int .i64 q.o2, .int .i64 q.o3, .int .i64 q.o4, .int .i64 q.o5, .int .i64 q.o6, .int .i64 q.o7] from rfl]
  exact m_same p q hp hq hp3 hq3
theorem RS.nil (w : World) : RS w none 0 [] := ⟨rfl, rfl, fun h => absurd h (by omega)⟩

set_option maxHeartbeats 16000000 in
set_option maxRecDepth 8000 in
theorem m_others {w : World} {A : Option Addr} {c : Nat} (p : PK) (hr : RS w A p.names.length p.names) (h3 : p.names.length ≤ 1048576) :
    Calls Try.prog 91 #[.agg (p.cells (.slice A p.names.length c)).toArray] w fun e w' => e = .returned (.bool (decide (p = normP p))) ∧ Grow w w' := by
  obtain ⟨m, hm⟩ : ∃ m, m = p.names.length := ⟨_, rfl⟩
  have HM := Lib.hid hm
  have HR0 := Lib.hid hr
  rw [← hm] at HR0 h3 ⊢
  clear hm hr
  rw [show (p.cells (.slice A m c)).toArray = #[.int .i64 p.kind, .int .i64 p.client, .int .i64 p.epoch, .int .i64 p.seq, .int .i64 p.op, .int .i64 p.at_, .int .i64 p.n, .string p.data, .int .i64 p.old, .int .i64 p.new, .int .i64 p.ckind, .string p.path, .string p.path2, .int .i64 p.flags, .int .i64 p.cfd, .int .i64 p.coff, .int .i64 p.cn, .string p.cdata, .int .i64 p.ino, .int .i64 p.errno, .int .i64 p.rerrno, .int .i64 p.rfd, .string p.rdata, .slice A m c, .int .i64 p.ikind, .int .i64 p.ilinks, .int .i64 p.isize, .int .i64 p.wrote, .int .i64 p.nkind, .int .i64 p.nlinks, .int .i64 p.nsize, .int .i64 p.b0, .int .i64 p.b1, .int .i64 p.b2, .int .i64 p.b3, .int .i64 p.o0, .int .i64 p.o1, .int .i64 p.o2, .int .i64 p.o3, .int .i64 p.o4, .int .i64 p.o5, .int .i64 p.o6, .int .i64 p.o7] from rfl]
  go_enter Try.func91, Try.ntmps91
  go_upto_region 1 with (fail)
  have hb := Row.new w 36 (p.cells (.slice A m c)) #[.int .i64 p.kind, .int .i64 p.client, .int .i64 p.epoch, .int .i64 p.seq, .int .i64 p.op, .int .i64 p.at_, .int .i64 p.n, .string p.data, .int .i64 p.old, .int .i64 p.new, .int .i64 p.ckind, .string p.path, .string p.path2, .int .i64 p.flags, .int .i64 p.cfd, .int .i64 p.coff, .int .i64 p.cn, .string p.cdata, .int .i64 p.ino, .int .i64 p.errno, .int .i64 p.rerrno, .int .i64 p.rfd, .string p.rdata, .slice A m c, .int .i64 p.ikind, .int .i64 p.ilinks, .int .i64 p.isize, .int .i64 p.wrote, .int .i64 p.nkind, .int .i64 p.nlinks, .int .i64 p.nsize, .int .i64 p.b0, .int .i64 p.b1, .int .i64 p.b2, .int .i64 p.b3, .int .i64 p.o0, .int .i64 p.o1, .int .i64 p.o2, .int .i64 p.o3, .int .i64 p.o4, .int .i64 p.o5, .int .i64 p.o6, .int .i64 p.o7] rfl
  have ga := (Grow.refl w).alloc (.cells #[.int .i64 p.kind, .int .i64 p.client, .int .i64 p.epoch, .int .i64 p.seq, .int .i64 p.op, .int .i64 p.at_, .int .i64 p.n, .string p.data, .int .i64 p.old, .int .i64 p.new, .int .i64 p.ckind, .string p.path, .string p.path2, .int .i64 p.flags, .int .i64 p.cfd, .int .i64 p.coff, .int .i64 p.cn, .string p.cdata, .int .i64 p.ino, .int .i64 p.errno, .int .i64 p.rerrno, .int .i64 p.rfd, .string p.rdata, .slice A m c, .int .i64 p.ikind, .int .i64 p.ilinks, .int .i64 p.isize, .int .i64 p.wrote, .int .i64 p.nkind, .int .i64 p.nlinks, .int .i64 p.nsize, .int .i64 p.b0, .int .i64 p.b1, .int .i64 p.b2, .int .i64 p.b3, .int .i64 p.o0, .int .i64 p.o1, .int .i64 p.o2, .int .i64 p.o3, .int .i64 p.o4, .int .i64 p.o5, .int .i64 p.o6, .int .i64 p.o7] 36)
  obtain ⟨w1, hw1⟩ : ∃ z, z = w.alloc (.cells #[.int .i64 p.kind, .int .i64 p.client, .int .i64 p.epoch, .int .i64 p.seq, .int .i64 p.op, .int .i64 p.at_, .int .i64 p.n, .string p.data, .int .i64 p.old, .int .i64 p.new, .int .i64 p.ckind, .string p.path, .string p.path2, .int .i64 p.flags, .int .i64 p.cfd, .int .i64 p.coff, .int .i64 p.cn, .string p.cdata, .int .i64 p.ino, .int .i64 p.errno, .int .i64 p.rerrno, .int .i64 p.rfd, .string p.rdata, .slice A m c, .int .i64 p.ikind, .int .i64 p.ilinks, .int .i64 p.isize, .int .i64 p.wrote, .int .i64 p.nkind, .int .i64 p.nlinks, .int .i64 p.nsize, .int .i64 p.b0, .int .i64 p.b1, .int .i64 p.b2, .int .i64 p.b3, .int .i64 p.o0, .int .i64 p.o1, .int .i64 p.o2, .int .i64 p.o3, .int .i64 p.o4, .int .i64 p.o5, .int .i64 p.o6, .int .i64 p.o7] 36) := ⟨_, rfl⟩
  obtain ⟨x, hx⟩ : ∃ z, z = w.heap.size := ⟨_, rfl⟩
  rw [← hw1] at hb ga ⊢
  rw [← hx] at hb ⊢
  obtain ⟨P0, hP0⟩ : ∃ z, z = Value.agg #[.int .i64 p.kind, .int .i64 p.client, .int .i64 p.epoch, .int .i64 p.seq, .int .i64 p.op, .int .i64 p.at_, .int .i64 p.n, .string p.data, .int .i64 p.old, .int .i64 p.new, .int .i64 p.ckind, .string p.path, .string p.path2, .int .i64 p.flags, .int .i64 p.cfd, .int .i64 p.coff, .int .i64 p.cn, .string p.cdata, .int .i64 p.ino, .int .i64 p.errno, .int .i64 p.rerrno, .int .i64 p.rfd, .string p.rdata, .slice A m c, .int .i64 p.ikind, .int .i64 p.ilinks, .int .i64 p.isize, .int .i64 p.wrote, .int .i64 p.nkind, .int .i64 p.nlinks, .int .i64 p.nsize, .int .i64 p.b0, .int .i64 p.b1, .int .i64 p.b2, .int .i64 p.b3, .int .i64 p.o0, .int .i64 p.o1, .int .i64 p.o2, .int .i64 p.o3, .int .i64 p.o4, .int .i64 p.o5, .int .i64 p.o6, .int .i64 p.o7] := ⟨_, rfl⟩
  rw [← hP0]
  have BX1 := Lib.hid hb.1
  have HG1 := Lib.hid ga
  have HX := Lib.hid hx
  have hlx1 := hb.1.1
  have HR1 := Lib.hid (HR0.out.grow ga)
  clear hw1 hb ga hx hP0
  have c0 := BX1.out.2 0 _ rfl
  have c1 := BX1.out.2 1 _ rfl
  have c2 := BX1.out.2 2 _ rfl
  have c3 := BX1.out.2 3 _ rfl
  refine wp_region_list ?_
  refine wpList_runTo rfl (some 4) rfl (.pointer (some ⟨x, 0, none⟩)) w1 (by go_simp) ?_
  refine wpList_runTo rfl (some 5) rfl (.int .i64 p.kind) w1 (by go_simp) ?_
  refine wpList_runTo rfl (some 6) rfl (.pointer (some ⟨x, 1, none⟩)) w1 (by go_simp) ?_
  refine wpList_runTo rfl (some 7) rfl (.int .i64 p.client) w1 (by go_simp) ?_
  go_simp
  refine wpList_runTo rfl (some 8) rfl (.pointer (some ⟨x, 2, none⟩)) w1 (by go_simp) ?_
  refine wpList_runTo rfl (some 9) rfl (.int .i64 p.epoch) w1 (by go_simp) ?_
  refine wpList_runTo rfl (some 10) rfl (.pointer (some ⟨x, 3, none⟩)) w1 (by go_simp) ?_
  refine wpList_runTo rfl (some 11) rfl (.int .i64 p.seq) w1 (by go_simp) ?_
  go_simp
  refine wpList_buildTo rfl 36 #[(0, .tmp 5), (1, .tmp 7), (2, .tmp 9), (3, .tmp 11)] rfl (some 12) rfl (PK.cells { kind := p.kind, client := p.client, epoch := p.epoch, seq := p.seq } (.slice none 0 0)).toArray (by kernel_rfl) ?_
  have hy0 := Row.new w1 36 zP #[.int .i64 0, .int .i64 0, .int .i64 0, .int .i64 0, .int .i64 0, .int .i64 0, .int .i64 0, .string ⟨#[]⟩, .int .i64 0, .int .i64 0, .int .i64 0, .string ⟨#[]⟩, .string ⟨#[]⟩, .int .i64 0, .int .i64 0, .int .i64 0, .int .i64 0, .string ⟨#[]⟩, .int .i64 0, .int .i64 0, .int .i64 0, .int .i64 0, .string ⟨#[]⟩, .slice none 0 0, .int .i64 0, .int .i64 0, .int .i64 0, .int .i64 0, .int .i64 0, .int .i64 0, .int .i64 0, .int .i64 0, .int .i64 0, .int .i64 0, .int .i64 0, .int .i64 0, .int .i64 0, .int .i64 0, .int .i64 0, .int .i64 0, .int .i64 0, .int .i64 0, .int .i64 0] rfl
  have ga := (Grow.refl w1).alloc (.cells #[.int .i64 0, .int .i64 0, .int .i64 0, .int .i64 0, .int .i64 0, .int .i64 0, .int .i64 0, .string ⟨#[]⟩, .int .i64 0, .int .i64 0, .int .i64 0, .string ⟨#[]⟩, .string ⟨#[]⟩, .int .i64 0, .int .i64 0, .int .i64 0, .int .i64 0, .string ⟨#[]⟩, .int .i64 0, .int .i64 0, .int .i64 0, .int .i64 0, .string ⟨#[]⟩, .slice none 0 0, .int .i64 0, .int .i64 0, .int .i64 0, .int .i64 0, .int .i64 0, .int .i64 0, .int .i64 0, .int .i64 0, .int .i64 0, .int .i64 0, .int .i64 0, .int .i64 0, .int .i64 0, .int .i64 0, .int .i64 0, .int .i64 0, .int .i64 0, .int .i64 0, .int .i64 0] 36)
  refine wpList_allocTo rfl (some 3) rfl (.pointer (some ⟨w1.heap.size, 0, none⟩)) (.cells #[.int .i64 0, .int .i64 0, .int .i64 0, .int .i64 0, .int .i64 0, .int .i64 0, .int .i64 0, .string ⟨#[]⟩, .int .i64 0, .int .i64 0, .int .i64 0, .string ⟨#[]⟩, .string ⟨#[]⟩, .int .i64 0, .int .i64 0, .int .i64 0, .int .i64 0, .string ⟨#[]⟩, .int .i64 0, .int .i64 0, .int .i64 0, .int .i64 0, .string ⟨#[]⟩, .slice none 0 0, .int .i64 0, .int .i64 0, .int .i64 0, .int .i64 0, .int .i64 0, .int .i64 0, .int .i64 0, .int .i64 0, .int .i64 0, .int .i64 0, .int .i64 0, .int .i64 0, .int .i64 0, .int .i64 0, .int .i64 0, .int .i64 0, .int .i64 0, .int .i64 0, .int .i64 0] 36) (by kernel_rfl) ?_
  obtain ⟨w2, hw2⟩ : ∃ z, z = w1.alloc (.cells #[.int .i64 0, .int .i64 0, .int .i64 0, .int .i64 0, .int .i64 0, .int .i64 0, .int .i64 0, .string ⟨#[]⟩, .int .i64 0, .int .i64 0, .int .i64 0, .string ⟨#[]⟩, .string ⟨#[]⟩, .int .i64 0, .int .i64 0, .int .i64 0, .int .i64 0, .string ⟨#[]⟩, .int .i64 0, .int .i64 0, .int .i64 0, .int .i64 0, .string ⟨#[]⟩, .slice none 0 0, .int .i64 0, .int .i64 0, .int .i64 0, .int .i64 0, .int .i64 0, .int .i64 0, .int .i64 0, .int .i64 0, .int .i64 0, .int .i64 0, .int .i64 0, .int .i64 0, .int .i64 0, .int .i64 0, .int .i64 0, .int .i64 0, .int .i64 0, .int .i64 0, .int .i64 0] 36) := ⟨_, rfl⟩
  obtain ⟨y, hy⟩ : ∃ z, z = w1.heap.size := ⟨_, rfl⟩
  rw [← hw2] at hy0 ga ⊢
  rw [← hy] at hy0 ⊢
  refine wpList_storeRow rfl 36 (.tmp 3) (.tmp 12) rfl rfl y (by go_simp) (PK.cells { kind := p.kind, client := p.client, epoch := p.epoch, seq := p.seq } (.slice none 0 0)) zP (by go_simp) hy0 rfl pk_size rfl ?_
  intro w3 r3 t3 z3
  have hxy : ¬ x = y := by omega
  have hwy : w.heap.size ≤ y := by have := HX.out; omega
  have HG3 := Lib.hid (show Grow w w3 from (HG1.out.trans ga).low (t3.low (B := w.heap.size) (fun i e => by have e' : i = y := e; omega) (HG1.out.trans ga).size))
  have BX := Lib.hid ((BX1.out.keep ga).turnW t3 (by omega))
  have HY0 := Lib.hid r3
  have HR3 := Lib.hid ((HR1.out.grow ga).turnW t3 (fun hn q hq => HR0.out.ne hwy hn q hq))
  have hly := r3.1.1
  have hlx := BX.out.1
  clear hw2 hy0 ga hy r3 t3 z3 c0 c1 c2 c3 BX1 HG1 HR1 hlx1
  go_upto_region 2 with (fail)
  have c0 := BX.out.2 0 _ rfl
  obtain ⟨ki, hki⟩ : ∃ z, z = p.kind := ⟨_, rfl⟩
  rw [← hki] at c0
  have HKI := Lib.hid hki
  clear hki
  go_upto_block 0 with (fail)
  go_cut [3] (fun v wx => v = .pointer (some ⟨y, 0, none⟩) ∧ ∃ A' c', Row wx y ((normP p).cells (.slice A' (normP p).names.length c')) ∧ RS wx A' (normP p).names.length (normP p).names ∧ Turn (fun k => k = y) w3 wx)
  case first =>
    by_cases k1 : ki = 1
    · subst k1
      have HT0 := Lib.hid (Turn.refl (fun k => k = y) w3)
      have BX0 := BX
      go_upto_region 4 with (fail)
      clear c0
      have c4 := BX0.out.2 4 _ rfl
      have e4 := HY0.out.1.2 4 _ rfl
      have f4 := HY0.out.2 4 (by simp [PK.cells])
      have hy1 := show Row (w3.setCell ⟨y, 4, none⟩ (.int .i64 p.op)) y (PK.cells { kind := p.kind, client := p.client, epoch := p.epoch, seq := p.seq, op := p.op } (.slice none 0 0)) from (HY0.out.set (j := 4) (v := .int .i64 p.op) (by simp [PK.cells]))
      have ht1 := (HT0.out.and (Turn.setCell (F := fun k => k = y) _ (p := ⟨y, 4, none⟩) rfl (.int .i64 p.op)))
      go_upto_region 5 with (fail)
      obtain ⟨v1, hv⟩ : ∃ z, z = (w3.setCell ⟨y, 4, none⟩ (.int .i64 p.op)) := ⟨_, rfl⟩
      rw [← hv] at hy1 ht1 ⊢
      clear c4 e4 f4 hv
      have HY1 := Lib.hid hy1
      have HT1 := Lib.hid ht1
      have BX1 := Lib.hid (BX.out.turnW ht1 hxy)
      replace hly := hy1.1.1
      replace hlx := BX1.out.1
      clear hy1 ht1
      have c5 := BX1.out.2 5 _ rfl
      have e5 := HY1.out.1.2 5 _ rfl
      have f5 := HY1.out.2 5 (by simp [PK.cells])
      have hy2 := show Row (v1.setCell ⟨y, 5, none⟩ (.int .i64 p.at_)) y (PK.cells { kind := p.kind, client := p.client, epoch := p.epoch, seq := p.seq, op := p.op, at_ := p.at_ } (.slice none 0 0)) from (HY1.out.set (j := 5) (v := .int .i64 p.at_) (by simp [PK.cells]))
      have ht2 := (HT1.out.and (Turn.setCell (F := fun k => k = y) _ (p := ⟨y, 5, none⟩) rfl (.int .i64 p.at_)))
      go_upto_region 6 with (fail)
      obtain ⟨v2, hv⟩ : ∃ z, z = (v1.setCell ⟨y, 5, none⟩ (.int .i64 p.at_)) := ⟨_, rfl⟩
      rw [← hv] at hy2 ht2 ⊢
      clear c5 e5 f5 hv
      have HY2 := Lib.hid hy2
      have HT2 := Lib.hid ht2
      have BX2 := Lib.hid (BX.out.turnW ht2 hxy)
      replace hly := hy2.1.1
      replace hlx := BX2.out.1
      clear hy2 ht2
      have c6 := BX2.out.2 6 _ rfl
      have e6 := HY2.out.1.2 6 _ rfl
      have f6 := HY2.out.2 6 (by simp [PK.cells])
      have hy3 := show Row (v2.setCell ⟨y, 6, none⟩ (.int .i64 p.n)) y (PK.cells { kind := p.kind, client := p.client, epoch := p.epoch, seq := p.seq, op := p.op, at_ := p.at_, n := p.n } (.slice none 0 0)) from (HY2.out.set (j := 6) (v := .int .i64 p.n) (by simp [PK.cells]))
      have ht3 := (HT2.out.and (Turn.setCell (F := fun k => k = y) _ (p := ⟨y, 6, none⟩) rfl (.int .i64 p.n)))
      go_upto_region 7 with (fail)
      obtain ⟨v3, hv⟩ : ∃ z, z = (v2.setCell ⟨y, 6, none⟩ (.int .i64 p.n)) := ⟨_, rfl⟩
      rw [← hv] at hy3 ht3 ⊢
      clear c6 e6 f6 hv
      have HY3 := Lib.hid hy3
      have HT3 := Lib.hid ht3
      have BX3 := Lib.hid (BX.out.turnW ht3 hxy)
      replace hly := hy3.1.1
      replace hlx := BX3.out.1
      clear hy3 ht3
      have c7 := BX3.out.2 7 _ rfl
      have e7 := HY3.out.1.2 7 _ rfl
      have f7 := HY3.out.2 7 (by simp [PK.cells])
      have hy4 := show Row (v3.setCell ⟨y, 7, none⟩ (.string p.data)) y (PK.cells { kind := p.kind, client := p.client, epoch := p.epoch, seq := p.seq, op := p.op, at_ := p.at_, n := p.n, data := p.data } (.slice none 0 0)) from (HY3.out.set (j := 7) (v := .string p.data) (by simp [PK.cells]))
      have ht4 := (HT3.out.and (Turn.setCell (F := fun k => k = y) _ (p := ⟨y, 7, none⟩) rfl (.string p.data)))
      go_upto_region 8 with (fail)
      obtain ⟨v4, hv⟩ : ∃ z, z = (v3.setCell ⟨y, 7, none⟩ (.string p.data)) := ⟨_, rfl⟩
      rw [← hv] at hy4 ht4 ⊢
      clear c7 e7 f7 hv
      have HY4 := Lib.hid hy4
      have HT4 := Lib.hid ht4
      have BX4 := Lib.hid (BX.out.turnW ht4 hxy)
      replace hly := hy4.1.1
      replace hlx := BX4.out.1
      clear hy4 ht4
      have c8 := BX4.out.2 8 _ rfl
      have e8 := HY4.out.1.2 8 _ rfl
      have f8 := HY4.out.2 8 (by simp [PK.cells])
      have hy5 := show Row (v4.setCell ⟨y, 8, none⟩ (.int .i64 p.old)) y (PK.cells { kind := p.kind, client := p.client, epoch := p.epoch, seq := p.seq, op := p.op, at_ := p.at_, n := p.n, data := p.data, old := p.old } (.slice none 0 0)) from (HY4.out.set (j := 8) (v := .int .i64 p.old) (by simp [PK.cells]))
      have ht5 := (HT4.out.and (Turn.setCell (F := fun k => k = y) _ (p := ⟨y, 8, none⟩) rfl (.int .i64 p.old)))
      go_upto_region 9 with (fail)
      obtain ⟨v5, hv⟩ : ∃ z, z = (v4.setCell ⟨y, 8, none⟩ (.int .i64 p.old)) := ⟨_, rfl⟩
      rw [← hv] at hy5 ht5 ⊢
      clear c8 e8 f8 hv
      have HY5 := Lib.hid hy5
      have HT5 := Lib.hid ht5
      have BX5 := Lib.hid (BX.out.turnW ht5 hxy)
      replace hly := hy5.1.1
      replace hlx := BX5.out.1
      clear hy5 ht5
      have c9 := BX5.out.2 9 _ rfl
      have e9 := HY5.out.1.2 9 _ rfl
      have f9 := HY5.out.2 9 (by simp [PK.cells])
      have hy6 := show Row (v5.setCell ⟨y, 9, none⟩ (.int .i64 p.new)) y (PK.cells { kind := p.kind, client := p.client, epoch := p.epoch, seq := p.seq, op := p.op, at_ := p.at_, n := p.n, data := p.data, old := p.old, new := p.new } (.slice none 0 0)) from (HY5.out.set (j := 9) (v := .int .i64 p.new) (by simp [PK.cells]))
      have ht6 := (HT5.out.and (Turn.setCell (F := fun k => k = y) _ (p := ⟨y, 9, none⟩) rfl (.int .i64 p.new)))
      have HYZ := Lib.hid hy6
      have HTZ := Lib.hid ht6
      clear hy6 ht6
      go_wp2_with fail
      go_meet
      rw [(kind1 (p := p) HKI.out.symm).2]
      exact ⟨rfl, none, 0, HYZ.out, RS.nil _, HTZ.out⟩
    by_cases k2 : ki = 2
    · subst k2
      have HT0 := Lib.hid (Turn.refl (fun k => k = y) w3)
      have BX0 := BX
      go_upto_region 11 with (fail)
      clear c0
      have c4 := BX0.out.2 4 _ rfl
      have e4 := HY0.out.1.2 4 _ rfl
      have f4 := HY0.out.2 4 (by simp [PK.cells])
      have hy1 := show Row (w3.setCell ⟨y, 4, none⟩ (.int .i64 p.op)) y (PK.cells { kind := p.kind, client := p.client, epoch := p.epoch, seq := p.seq, op := p.op } (.slice none 0 0)) from (HY0.out.set (j := 4) (v := .int .i64 p.op) (by simp [PK.cells]))
      have ht1 := (HT0.out.and (Turn.setCell (F := fun k => k = y) _ (p := ⟨y, 4, none⟩) rfl (.int .i64 p.op)))
      go_upto_region 12 with (fail)
      obtain ⟨v1, hv⟩ : ∃ z, z = (w3.setCell ⟨y, 4, none⟩ (.int .i64 p.op)) := ⟨_, rfl⟩
      rw [← hv] at hy1 ht1 ⊢
      clear c4 e4 f4 hv
      have HY1 := Lib.hid hy1
      have HT1 := Lib.hid ht1
      have BX1 := Lib.hid (BX.out.turnW ht1 hxy)
      replace hly := hy1.1.1
      replace hlx := BX1.out.1
      clear hy1 ht1
      have c19 := BX1.out.2 19 _ rfl
      have e19 := HY1.out.1.2 19 _ rfl
      have f19 := HY1.out.2 19 (by simp [PK.cells])
      have hy2 := show Row (v1.setCell ⟨y, 19, none⟩ (.int .i64 p.errno)) y (PK.cells { kind := p.kind, client := p.client, epoch := p.epoch, seq := p.seq, op := p.op, errno := p.errno } (.slice none 0 0)) from (HY1.out.set (j := 19) (v := .int .i64 p.errno) (by simp [PK.cells]))
      have ht2 := (HT1.out.and (Turn.setCell (F := fun k => k = y) _ (p := ⟨y, 19, none⟩) rfl (.int .i64 p.errno)))
      go_upto_region 13 with (fail)
      obtain ⟨v2, hv⟩ : ∃ z, z = (v1.setCell ⟨y, 19, none⟩ (.int .i64 p.errno)) := ⟨_, rfl⟩
      rw [← hv] at hy2 ht2 ⊢
      clear c19 e19 f19 hv
      have HY2 := Lib.hid hy2
      have HT2 := Lib.hid ht2
      have BX2 := Lib.hid (BX.out.turnW ht2 hxy)
      replace hly := hy2.1.1
      replace hlx := BX2.out.1
      clear hy2 ht2
      have c7 := BX2.out.2 7 _ rfl
      have e7 := HY2.out.1.2 7 _ rfl
      have f7 := HY2.out.2 7 (by simp [PK.cells])
      have hy3 := show Row (v2.setCell ⟨y, 7, none⟩ (.string p.data)) y (PK.cells { kind := p.kind, client := p.client, epoch := p.epoch, seq := p.seq, op := p.op, errno := p.errno, data := p.data } (.slice none 0 0)) from (HY2.out.set (j := 7) (v := .string p.data) (by simp [PK.cells]))
      have ht3 := (HT2.out.and (Turn.setCell (F := fun k => k = y) _ (p := ⟨y, 7, none⟩) rfl (.string p.data)))
      go_upto_region 14 with (fail)
      obtain ⟨v3, hv⟩ : ∃ z, z = (v2.setCell ⟨y, 7, none⟩ (.string p.data)) := ⟨_, rfl⟩
      rw [← hv] at hy3 ht3 ⊢
      clear c7 e7 f7 hv
      have HY3 := Lib.hid hy3
      have HT3 := Lib.hid ht3
      have BX3 := Lib.hid (BX.out.turnW ht3 hxy)
      replace hly := hy3.1.1
      replace hlx := BX3.out.1
      clear hy3 ht3
      have c8 := BX3.out.2 8 _ rfl
      have e8 := HY3.out.1.2 8 _ rfl
      have f8 := HY3.out.2 8 (by simp [PK.cells])
      have hy4 := show Row (v3.setCell ⟨y, 8, none⟩ (.int .i64 p.old)) y (PK.cells { kind := p.kind, client := p.client, epoch := p.epoch, seq := p.seq, op := p.op, errno := p.errno, data := p.data, old := p.old } (.slice none 0 0)) from (HY3.out.set (j := 8) (v := .int .i64 p.old) (by simp [PK.cells]))
      have ht4 := (HT3.out.and (Turn.setCell (F := fun k => k = y) _ (p := ⟨y, 8, none⟩) rfl (.int .i64 p.old)))
      have HYZ := Lib.hid hy4
      have HTZ := Lib.hid ht4
      clear hy4 ht4
      go_wp2_with fail
      go_meet
      rw [(kind2 (p := p) HKI.out.symm).2]
      exact ⟨rfl, none, 0, HYZ.out, RS.nil _, HTZ.out⟩
    by_cases k3 : ki = 3
    · subst k3
      have HT0 := Lib.hid (Turn.refl (fun k => k = y) w3)
      have BX0 := BX
      go_upto_region 16 with (fail)
      clear c0
      have c4 := BX0.out.2 4 _ rfl
      have e4 := HY0.out.1.2 4 _ rfl
      have f4 := HY0.out.2 4 (by simp [PK.cells])
      have hy1 := show Row (w3.setCell ⟨y, 4, none⟩ (.int .i64 p.op)) y (PK.cells { kind := p.kind, client := p.client, epoch := p.epoch, seq := p.seq, op := p.op } (.slice none 0 0)) from (HY0.out.set (j := 4) (v := .int .i64 p.op) (by simp [PK.cells]))
      have ht1 := (HT0.out.and (Turn.setCell (F := fun k => k = y) _ (p := ⟨y, 4, none⟩) rfl (.int .i64 p.op)))
      go_upto_region 17 with (fail)
      obtain ⟨v1, hv⟩ : ∃ z, z = (w3.setCell ⟨y, 4, none⟩ (.int .i64 p.op)) := ⟨_, rfl⟩
      rw [← hv] at hy1 ht1 ⊢
      clear c4 e4 f4 hv
      have HY1 := Lib.hid hy1
      have HT1 := Lib.hid ht1
      have BX1 := Lib.hid (BX.out.turnW ht1 hxy)
      replace hly := hy1.1.1
      replace hlx := BX1.out.1
      clear hy1 ht1
      have c18 := BX1.out.2 18 _ rfl
      have e18 := HY1.out.1.2 18 _ rfl
      have f18 := HY1.out.2 18 (by simp [PK.cells])
      have hy2 := show Row (v1.setCell ⟨y, 18, none⟩ (.int .i64 p.ino)) y (PK.cells { kind := p.kind, client := p.client, epoch := p.epoch, seq := p.seq, op := p.op, ino := p.ino } (.slice none 0 0)) from (HY1.out.set (j := 18) (v := .int .i64 p.ino) (by simp [PK.cells]))
      have ht2 := (HT1.out.and (Turn.setCell (F := fun k => k = y) _ (p := ⟨y, 18, none⟩) rfl (.int .i64 p.ino)))
      go_upto_region 18 with (fail)
      obtain ⟨v2, hv⟩ : ∃ z, z = (v1.setCell ⟨y, 18, none⟩ (.int .i64 p.ino)) := ⟨_, rfl⟩
      rw [← hv] at hy2 ht2 ⊢
      clear c18 e18 f18 hv
      have HY2 := Lib.hid hy2
      have HT2 := Lib.hid ht2
      have BX2 := Lib.hid (BX.out.turnW ht2 hxy)
      replace hly := hy2.1.1
      replace hlx := BX2.out.1
      clear hy2 ht2
      have c11 := BX2.out.2 11 _ rfl
      have c12 := BX2.out.2 12 _ rfl
      have c13 := BX2.out.2 13 _ rfl
      have c16 := BX2.out.2 16 _ rfl
      have e10 := HY2.out.1.2 10 _ rfl
      have f10 := HY2.out.2 10 (by simp [PK.cells])
      have e11 := HY2.out.1.2 11 _ rfl
      have f11 := HY2.out.2 11 (by simp [PK.cells])
      have e12 := HY2.out.1.2 12 _ rfl
      have f12 := HY2.out.2 12 (by simp [PK.cells])
      have e13 := HY2.out.1.2 13 _ rfl
      have f13 := HY2.out.2 13 (by simp [PK.cells])
      have e14 := HY2.out.1.2 14 _ rfl
      have f14 := HY2.out.2 14 (by simp [PK.cells])
      have e15 := HY2.out.1.2 15 _ rfl
      have f15 := HY2.out.2 15 (by simp [PK.cells])
      have e16 := HY2.out.1.2 16 _ rfl
      have f16 := HY2.out.2 16 (by simp [PK.cells])
      have e17 := HY2.out.1.2 17 _ rfl
      have f17 := HY2.out.2 17 (by simp [PK.cells])
      have hy3 := show Row ((((((((v2.setCell ⟨y, 10, none⟩ (.int .i64 0)).setCell ⟨y, 11, none⟩ (.string p.path)).setCell ⟨y, 12, none⟩ (.string p.path2)).setCell ⟨y, 13, none⟩ (.int .i64 p.flags)).setCell ⟨y, 14, none⟩ (.int .i64 0)).setCell ⟨y, 15, none⟩ (.int .i64 0)).setCell ⟨y, 16, none⟩ (.int .i64 p.cn)).setCell ⟨y, 17, none⟩ (.string ⟨#[]⟩)) y (PK.cells { kind := p.kind, client := p.client, epoch := p.epoch, seq := p.seq, op := p.op, ino := p.ino, path := p.path, path2 := p.path2, flags := p.flags, cn := p.cn } (.slice none 0 0)) from ((((((((HY2.out.set (j := 10) (v := .int .i64 0) (by simp [PK.cells])).set (j := 11) (v := .string p.path) (by simp [PK.cells])).set (j := 12) (v := .string p.path2) (by simp [PK.cells])).set (j := 13) (v := .int .i64 p.flags) (by simp [PK.cells])).set (j := 14) (v := .int .i64 0) (by simp [PK.cells])).set (j := 15) (v := .int .i64 0) (by simp [PK.cells])).set (j := 16) (v := .int .i64 p.cn) (by simp [PK.cells])).set (j := 17) (v := .string ⟨#[]⟩) (by simp [PK.cells]))
      have ht3 := ((((((((HT2.out.and (Turn.setCell (F := fun k => k = y) _ (p := ⟨y, 10, none⟩) rfl (.int .i64 0))).and (Turn.setCell (F := fun k => k = y) _ (p := ⟨y, 11, none⟩) rfl (.string p.path))).and (Turn.setCell (F := fun k => k = y) _ (p := ⟨y, 12, none⟩) rfl (.string p.path2))).and (Turn.setCell (F := fun k => k = y) _ (p := ⟨y, 13, none⟩) rfl (.int .i64 p.flags))).and (Turn.setCell (F := fun k => k = y) _ (p := ⟨y, 14, none⟩) rfl (.int .i64 0))).and (Turn.setCell (F := fun k => k = y) _ (p := ⟨y, 15, none⟩) rfl (.int .i64 0))).and (Turn.setCell (F := fun k => k = y) _ (p := ⟨y, 16, none⟩) rfl (.int .i64 p.cn))).and (Turn.setCell (F := fun k => k = y) _ (p := ⟨y, 17, none⟩) rfl (.string ⟨#[]⟩)))
      have HYZ := Lib.hid hy3
      have HTZ := Lib.hid ht3
      clear hy3 ht3
      go_wp2_with fail
      go_meet
      rw [(kind3 (p := p) HKI.out.symm).2]
      exact ⟨rfl, none, 0, HYZ.out, RS.nil _, HTZ.out⟩
    by_cases k4 : ki = 4
    · subst k4
      have HT0 := Lib.hid (Turn.refl (fun k => k = y) w3)
      have BX0 := BX
      go_upto_region 20 with (fail)
      clear c0
      have c4 := BX0.out.2 4 _ rfl
      have e4 := HY0.out.1.2 4 _ rfl
      have f4 := HY0.out.2 4 (by simp [PK.cells])
      have hy1 := show Row (w3.setCell ⟨y, 4, none⟩ (.int .i64 p.op)) y (PK.cells { kind := p.kind, client := p.client, epoch := p.epoch, seq := p.seq, op := p.op } (.slice none 0 0)) from (HY0.out.set (j := 4) (v := .int .i64 p.op) (by simp [PK.cells]))
      have ht1 := (HT0.out.and (Turn.setCell (F := fun k => k = y) _ (p := ⟨y, 4, none⟩) rfl (.int .i64 p.op)))
      go_upto_region 21 with (fail)
      obtain ⟨v1, hv⟩ : ∃ z, z = (w3.setCell ⟨y, 4, none⟩ (.int .i64 p.op)) := ⟨_, rfl⟩
      rw [← hv] at hy1 ht1 ⊢
      clear c4 e4 f4 hv
      have HY1 := Lib.hid hy1
      have HT1 := Lib.hid ht1
      have BX1 := Lib.hid (BX.out.turnW ht1 hxy)
      replace hly := hy1.1.1
      replace hlx := BX1.out.1
      clear hy1 ht1
      have c19 := BX1.out.2 19 _ rfl
      have e19 := HY1.out.1.2 19 _ rfl
      have f19 := HY1.out.2 19 (by simp [PK.cells])
      have hy2 := show Row (v1.setCell ⟨y, 19, none⟩ (.int .i64 p.errno)) y (PK.cells { kind := p.kind, client := p.client, epoch := p.epoch, seq := p.seq, op := p.op, errno := p.errno } (.slice none 0 0)) from (HY1.out.set (j := 19) (v := .int .i64 p.errno) (by simp [PK.cells]))
      have ht2 := (HT1.out.and (Turn.setCell (F := fun k => k = y) _ (p := ⟨y, 19, none⟩) rfl (.int .i64 p.errno)))
      go_upto_region 22 with (fail)
      obtain ⟨v2, hv⟩ : ∃ z, z = (v1.setCell ⟨y, 19, none⟩ (.int .i64 p.errno)) := ⟨_, rfl⟩
      rw [← hv] at hy2 ht2 ⊢
      clear c19 e19 f19 hv
      have HY2 := Lib.hid hy2
      have HT2 := Lib.hid ht2
      have BX2 := Lib.hid (BX.out.turnW ht2 hxy)
      replace hly := hy2.1.1
      replace hlx := BX2.out.1
      clear hy2 ht2
      have c18 := BX2.out.2 18 _ rfl
      have e18 := HY2.out.1.2 18 _ rfl
      have f18 := HY2.out.2 18 (by simp [PK.cells])
      have hy3 := show Row (v2.setCell ⟨y, 18, none⟩ (.int .i64 p.ino)) y (PK.cells { kind := p.kind, client := p.client, epoch := p.epoch, seq := p.seq, op := p.op, errno := p.errno, ino := p.ino } (.slice none 0 0)) from (HY2.out.set (j := 18) (v := .int .i64 p.ino) (by simp [PK.cells]))
      have ht3 := (HT2.out.and (Turn.setCell (F := fun k => k = y) _ (p := ⟨y, 18, none⟩) rfl (.int .i64 p.ino)))
      go_upto_region 23 with (fail)
      obtain ⟨v3, hv⟩ : ∃ z, z = (v2.setCell ⟨y, 18, none⟩ (.int .i64 p.ino)) := ⟨_, rfl⟩
      rw [← hv] at hy3 ht3 ⊢
      clear c18 e18 f18 hv
      have HY3 := Lib.hid hy3
      have HT3 := Lib.hid ht3
      have BX3 := Lib.hid (BX.out.turnW ht3 hxy)
      replace hly := hy3.1.1
      replace hlx := BX3.out.1
      clear hy3 ht3
      have c27 := BX3.out.2 27 _ rfl
      have e27 := HY3.out.1.2 27 _ rfl
      have f27 := HY3.out.2 27 (by simp [PK.cells])
      have hy4 := show Row (v3.setCell ⟨y, 27, none⟩ (.int .i64 p.wrote)) y (PK.cells { kind := p.kind, client := p.client, epoch := p.epoch, seq := p.seq, op := p.op, errno := p.errno, ino := p.ino, wrote := p.wrote } (.slice none 0 0)) from (HY3.out.set (j := 27) (v := .int .i64 p.wrote) (by simp [PK.cells]))
      have ht4 := (HT3.out.and (Turn.setCell (F := fun k => k = y) _ (p := ⟨y, 27, none⟩) rfl (.int .i64 p.wrote)))
      go_upto_region 24 with (fail)
      obtain ⟨v4, hv⟩ : ∃ z, z = (v3.setCell ⟨y, 27, none⟩ (.int .i64 p.wrote)) := ⟨_, rfl⟩
      rw [← hv] at hy4 ht4 ⊢
      clear c27 e27 f27 hv
      have HY4 := Lib.hid hy4
      have HT4 := Lib.hid ht4
      have BX4 := Lib.hid (BX.out.turnW ht4 hxy)
      replace hly := hy4.1.1
      replace hlx := BX4.out.1
      clear hy4 ht4
      have c5 := BX4.out.2 5 _ rfl
      have e5 := HY4.out.1.2 5 _ rfl
      have f5 := HY4.out.2 5 (by simp [PK.cells])
      have hy5 := show Row (v4.setCell ⟨y, 5, none⟩ (.int .i64 p.at_)) y (PK.cells { kind := p.kind, client := p.client, epoch := p.epoch, seq := p.seq, op := p.op, errno := p.errno, ino := p.ino, wrote := p.wrote, at_ := p.at_ } (.slice none 0 0)) from (HY4.out.set (j := 5) (v := .int .i64 p.at_) (by simp [PK.cells]))
      have ht5 := (HT4.out.and (Turn.setCell (F := fun k => k = y) _ (p := ⟨y, 5, none⟩) rfl (.int .i64 p.at_)))
      go_upto_region 25 with (fail)
      obtain ⟨v5, hv⟩ : ∃ z, z = (v4.setCell ⟨y, 5, none⟩ (.int .i64 p.at_)) := ⟨_, rfl⟩
      rw [← hv] at hy5 ht5 ⊢
      clear c5 e5 f5 hv
      have HY5 := Lib.hid hy5
      have HT5 := Lib.hid ht5
      have BX5 := Lib.hid (BX.out.turnW ht5 hxy)
      replace hly := hy5.1.1
      replace hlx := BX5.out.1
      clear hy5 ht5
      have c23 := BX5.out.2 23 _ rfl
      have c24 := BX5.out.2 24 _ rfl
      have c25 := BX5.out.2 25 _ rfl
      have c26 := BX5.out.2 26 _ rfl
      have e20 := HY5.out.1.2 20 _ rfl
      have f20 := HY5.out.2 20 (by simp [PK.cells])
      have e21 := HY5.out.1.2 21 _ rfl
      have f21 := HY5.out.2 21 (by simp [PK.cells])
      have e22 := HY5.out.1.2 22 _ rfl
      have f22 := HY5.out.2 22 (by simp [PK.cells])
      have e23 := HY5.out.1.2 23 _ rfl
      have f23 := HY5.out.2 23 (by simp [PK.cells])
      have e24 := HY5.out.1.2 24 _ rfl
      have f24 := HY5.out.2 24 (by simp [PK.cells])
      have e25 := HY5.out.1.2 25 _ rfl
      have f25 := HY5.out.2 25 (by simp [PK.cells])
      have e26 := HY5.out.1.2 26 _ rfl
      have f26 := HY5.out.2 26 (by simp [PK.cells])
      have hy6 := show Row (((((((v5.setCell ⟨y, 20, none⟩ (.int .i64 0)).setCell ⟨y, 21, none⟩ (.int .i64 0)).setCell ⟨y, 22, none⟩ (.string ⟨#[]⟩)).setCell ⟨y, 23, none⟩ (.slice A m c)).setCell ⟨y, 24, none⟩ (.int .i64 p.ikind)).setCell ⟨y, 25, none⟩ (.int .i64 p.ilinks)).setCell ⟨y, 26, none⟩ (.int .i64 p.isize)) y (PK.cells { kind := p.kind, client := p.client, epoch := p.epoch, seq := p.seq, op := p.op, errno := p.errno, ino := p.ino, wrote := p.wrote, at_ := p.at_, ikind := p.ikind, ilinks := p.ilinks, isize := p.isize, names := p.names } (.slice A m c)) from (((((((HY5.out.set (j := 20) (v := .int .i64 0) (by simp [PK.cells])).set (j := 21) (v := .int .i64 0) (by simp [PK.cells])).set (j := 22) (v := .string ⟨#[]⟩) (by simp [PK.cells])).set (j := 23) (v := .slice A m c) (by simp [PK.cells])).set (j := 24) (v := .int .i64 p.ikind) (by simp [PK.cells])).set (j := 25) (v := .int .i64 p.ilinks) (by simp [PK.cells])).set (j := 26) (v := .int .i64 p.isize) (by simp [PK.cells]))
      have ht6 := (((((((HT5.out.and (Turn.setCell (F := fun k => k = y) _ (p := ⟨y, 20, none⟩) rfl (.int .i64 0))).and (Turn.setCell (F := fun k => k = y) _ (p := ⟨y, 21, none⟩) rfl (.int .i64 0))).and (Turn.setCell (F := fun k => k = y) _ (p := ⟨y, 22, none⟩) rfl (.string ⟨#[]⟩))).and (Turn.setCell (F := fun k => k = y) _ (p := ⟨y, 23, none⟩) rfl (.slice A m c))).and (Turn.setCell (F := fun k => k = y) _ (p := ⟨y, 24, none⟩) rfl (.int .i64 p.ikind))).and (Turn.setCell (F := fun k => k = y) _ (p := ⟨y, 25, none⟩) rfl (.int .i64 p.ilinks))).and (Turn.setCell (F := fun k => k = y) _ (p := ⟨y, 26, none⟩) rfl (.int .i64 p.isize)))
      go_upto_region 26 with (fail)
      obtain ⟨v6, hv⟩ : ∃ z, z = (((((((v5.setCell ⟨y, 20, none⟩ (.int .i64 0)).setCell ⟨y, 21, none⟩ (.int .i64 0)).setCell ⟨y, 22, none⟩ (.string ⟨#[]⟩)).setCell ⟨y, 23, none⟩ (.slice A m c)).setCell ⟨y, 24, none⟩ (.int .i64 p.ikind)).setCell ⟨y, 25, none⟩ (.int .i64 p.ilinks)).setCell ⟨y, 26, none⟩ (.int .i64 p.isize)) := ⟨_, rfl⟩
      rw [← hv] at hy6 ht6 ⊢
      clear c23 c24 c25 c26 e20 f20 e21 f21 e22 f22 e23 f23 e24 f24 e25 f25 e26 f26 hv
      have HY6 := Lib.hid hy6
      have HT6 := Lib.hid ht6
      have BX6 := Lib.hid (BX.out.turnW ht6 hxy)
      replace hly := hy6.1.1
      replace hlx := BX6.out.1
      clear hy6 ht6
      have c28 := BX6.out.2 28 _ rfl
      have c29 := BX6.out.2 29 _ rfl
      have c30 := BX6.out.2 30 _ rfl
      have c31 := BX6.out.2 31 _ rfl
      have c32 := BX6.out.2 32 _ rfl
      have c33 := BX6.out.2 33 _ rfl
      have c34 := BX6.out.2 34 _ rfl
      have e28 := HY6.out.1.2 28 _ rfl
      have f28 := HY6.out.2 28 (by simp [PK.cells])
      have e29 := HY6.out.1.2 29 _ rfl
      have f29 := HY6.out.2 29 (by simp [PK.cells])
      have e30 := HY6.out.1.2 30 _ rfl
      have f30 := HY6.out.2 30 (by simp [PK.cells])
      have e31 := HY6.out.1.2 31 _ rfl
      have f31 := HY6.out.2 31 (by simp [PK.cells])
      have e32 := HY6.out.1.2 32 _ rfl
      have f32 := HY6.out.2 32 (by simp [PK.cells])
      have e33 := HY6.out.1.2 33 _ rfl
      have f33 := HY6.out.2 33 (by simp [PK.cells])
      have e34 := HY6.out.1.2 34 _ rfl
      have f34 := HY6.out.2 34 (by simp [PK.cells])
      have e35 := HY6.out.1.2 35 _ rfl
      have f35 := HY6.out.2 35 (by simp [PK.cells])
      have e36 := HY6.out.1.2 36 _ rfl
      have f36 := HY6.out.2 36 (by simp [PK.cells])
      have e37 := HY6.out.1.2 37 _ rfl
      have f37 := HY6.out.2 37 (by simp [PK.cells])
      have e38 := HY6.out.1.2 38 _ rfl
      have f38 := HY6.out.2 38 (by simp [PK.cells])
      have e39 := HY6.out.1.2 39 _ rfl
      have f39 := HY6.out.2 39 (by simp [PK.cells])
      have e40 := HY6.out.1.2 40 _ rfl
      have f40 := HY6.out.2 40 (by simp [PK.cells])
      have e41 := HY6.out.1.2 41 _ rfl
      have f41 := HY6.out.2 41 (by simp [PK.cells])
      have e42 := HY6.out.1.2 42 _ rfl
      have f42 := HY6.out.2 42 (by simp [PK.cells])
      have hy7 := show Row (((((((((((((((v6.setCell ⟨y, 28, none⟩ (.int .i64 p.nkind)).setCell ⟨y, 29, none⟩ (.int .i64 p.nlinks)).setCell ⟨y, 30, none⟩ (.int .i64 p.nsize)).setCell ⟨y, 31, none⟩ (.int .i64 p.b0)).setCell ⟨y, 32, none⟩ (.int .i64 p.b1)).setCell ⟨y, 33, none⟩ (.int .i64 p.b2)).setCell ⟨y, 34, none⟩ (.int .i64 p.b3)).setCell ⟨y, 35, none⟩ (.int .i64 0)).setCell ⟨y, 36, none⟩ (.int .i64 0)).setCell ⟨y, 37, none⟩ (.int .i64 0)).setCell ⟨y, 38, none⟩ (.int .i64 0)).setCell ⟨y, 39, none⟩ (.int .i64 0)).setCell ⟨y, 40, none⟩ (.int .i64 0)).setCell ⟨y, 41, none⟩ (.int .i64 0)).setCell ⟨y, 42, none⟩ (.int .i64 0)) y (PK.cells { kind := p.kind, client := p.client, epoch := p.epoch, seq := p.seq, op := p.op, errno := p.errno, ino := p.ino, wrote := p.wrote, at_ := p.at_, ikind := p.ikind, ilinks := p.ilinks, isize := p.isize, names := p.names, nkind := p.nkind, nlinks := p.nlinks, nsize := p.nsize, b0 := p.b0, b1 := p.b1, b2 := p.b2, b3 := p.b3 } (.slice A m c)) from (((((((((((((((HY6.out.set (j := 28) (v := .int .i64 p.nkind) (by simp [PK.cells])).set (j := 29) (v := .int .i64 p.nlinks) (by simp [PK.cells])).set (j := 30) (v := .int .i64 p.nsize) (by simp [PK.cells])).set (j := 31) (v := .int .i64 p.b0) (by simp [PK.cells])).set (j := 32) (v := .int .i64 p.b1) (by simp [PK.cells])).set (j := 33) (v := .int .i64 p.b2) (by simp [PK.cells])).set (j := 34) (v := .int .i64 p.b3) (by simp [PK.cells])).set (j := 35) (v := .int .i64 0) (by simp [PK.cells])).set (j := 36) (v := .int .i64 0) (by simp [PK.cells])).set (j := 37) (v := .int .i64 0) (by simp [PK.cells])).set (j := 38) (v := .int .i64 0) (by simp [PK.cells])).set (j := 39) (v := .int .i64 0) (by simp [PK.cells])).set (j := 40) (v := .int .i64 0) (by simp [PK.cells])).set (j := 41) (v := .int .i64 0) (by simp [PK.cells])).set (j := 42) (v := .int .i64 0) (by simp [PK.cells]))
      have ht7 := (((((((((((((((HT6.out.and (Turn.setCell (F := fun k => k = y) _ (p := ⟨y, 28, none⟩) rfl (.int .i64 p.nkind))).and (Turn.setCell (F := fun k => k = y) _ (p := ⟨y, 29, none⟩) rfl (.int .i64 p.nlinks))).and (Turn.setCell (F := fun k => k = y) _ (p := ⟨y, 30, none⟩) rfl (.int .i64 p.nsize))).and (Turn.setCell (F := fun k => k = y) _ (p := ⟨y, 31, none⟩) rfl (.int .i64 p.b0))).and (Turn.setCell (F := fun k => k = y) _ (p := ⟨y, 32, none⟩) rfl (.int .i64 p.b1))).and (Turn.setCell (F := fun k => k = y) _ (p := ⟨y, 33, none⟩) rfl (.int .i64 p.b2))).and (Turn.setCell (F := fun k => k = y) _ (p := ⟨y, 34, none⟩) rfl (.int .i64 p.b3))).and (Turn.setCell (F := fun k => k = y) _ (p := ⟨y, 35, none⟩) rfl (.int .i64 0))).and (Turn.setCell (F := fun k => k = y) _ (p := ⟨y, 36, none⟩) rfl (.int .i64 0))).and (Turn.setCell (F := fun k => k = y) _ (p := ⟨y, 37, none⟩) rfl (.int .i64 0))).and (Turn.setCell (F := fun k => k = y) _ (p := ⟨y, 38, none⟩) rfl (.int .i64 0))).and (Turn.setCell (F := fun k => k = y) _ (p := ⟨y, 39, none⟩) rfl (.int .i64 0))).and (Turn.setCell (F := fun k => k = y) _ (p := ⟨y, 40, none⟩) rfl (.int .i64 0))).and (Turn.setCell (F := fun k => k = y) _ (p := ⟨y, 41, none⟩) rfl (.int .i64 0))).and (Turn.setCell (F := fun k => k = y) _ (p := ⟨y, 42, none⟩) rfl (.int .i64 0)))
      have HYZ := Lib.hid hy7
      have HTZ := Lib.hid ht7
      clear hy7 ht7
      go_wp2_with fail
      go_meet
      rw [(kind4 (p := p) HKI.out.symm).2]
      refine ⟨rfl, A, c, ?_, ?_, HTZ.out⟩
      · have := HYZ.out
        rw [HM.out] at this
        exact this
      · have := HR3.out.turnW HTZ.out (fun hn q hq => HR0.out.ne hwy hn q hq)
        rw [HM.out] at this
        exact this
    by_cases k5 : ki = 5
    · subst k5
      have HT0 := Lib.hid (Turn.refl (fun k => k = y) w3)
      have BX0 := BX
      go_upto_region 28 with (fail)
      clear c0
      have c18 := BX0.out.2 18 _ rfl
      have e18 := HY0.out.1.2 18 _ rfl
      have f18 := HY0.out.2 18 (by simp [PK.cells])
      have hy1 := show Row (w3.setCell ⟨y, 18, none⟩ (.int .i64 p.ino)) y (PK.cells { kind := p.kind, client := p.client, epoch := p.epoch, seq := p.seq, ino := p.ino } (.slice none 0 0)) from (HY0.out.set (j := 18) (v := .int .i64 p.ino) (by simp [PK.cells]))
      have ht1 := (HT0.out.and (Turn.setCell (F := fun k => k = y) _ (p := ⟨y, 18, none⟩) rfl (.int .i64 p.ino)))
      have HYZ := Lib.hid hy1
      have HTZ := Lib.hid ht1
      clear hy1 ht1
      go_wp2_with fail
      go_meet
      rw [(kind5 (p := p) HKI.out.symm).2]
      exact ⟨rfl, none, 0, HYZ.out, RS.nil _, HTZ.out⟩
    have q1 : (ki == 1) = false := beq_eq_false_iff_ne.2 k1
    have q2 : (ki == 2) = false := beq_eq_false_iff_ne.2 k2
    have q3 : (ki == 3) = false := beq_eq_false_iff_ne.2 k3
    have q4 : (ki == 4) = false := beq_eq_false_iff_ne.2 k4
    have q5 : (ki == 5) = false := beq_eq_false_iff_ne.2 k5
    have hn0 : normP p = { kind := p.kind, client := p.client, epoch := p.epoch, seq := p.seq } := by
      have := HKI.out
      unfold normP
      rw [if_neg (by omega), if_neg (by omega), if_neg (by omega), if_neg (by omega), if_neg (by omega)]
    have HN0 := Lib.hid hn0
    clear hn0
    go_wp2_with fail
    go_meet
    rw [HN0.out]
    exact ⟨rfl, none, 0, HY0.out, RS.nil _, Turn.refl _ _⟩
  case rest =>
    obtain ⟨rfl, A', c', hy, hrs, ht⟩ := hcut
    have HGZ := Lib.hid (show Grow w wc from HG3.out.low (ht.low (B := w.heap.size) (fun i e => by have e' : i = y := e; omega) HG3.out.size))
    have BXZ := Lib.hid (BX.out.turnW ht hxy)
    have HRZ := HR3.out.turnW ht (fun hn q hq => HR0.out.ne hwy hn q hq)
    rw [HM.out] at HRZ
    have hz3 : (normP p).names.length ≤ 1048576 := by
      rcases normP_names p with e | e <;> rw [e]
      · rw [← HM.out]; exact h3
      · exact Nat.zero_le _
    have hcall := m_sameC p (normP p) (c := c) (c' := c') HRZ hrs (by rw [← HM.out]; exact h3) hz3
    have HPN := Lib.hid (show decide (p = normP p) = decide (p = normP p) from rfl)
    obtain ⟨Z, hZ⟩ : ∃ z, z = normP p := ⟨_, rfl⟩
    rw [← hZ] at hcall hy
    have HZ := Lib.hid hZ
    rw [← HM.out] at hcall
    have HY := Lib.hid hy
    clear hZ hrs hz3 HRZ hy HPN c0
    go_upto_region 29 with (fail)
    refine wp_region_list ?_
    refine wpList_loadRow rfl 36 (.tmp 1) rfl (some 115) rfl x rfl (p.cells (.slice A m c)) _ BXZ.out Try.underlying36 rfl pk_size ?_
    refine wpList_loadRow rfl 36 (.tmp 3) rfl (some 116) rfl y rfl (Z.cells (.slice A' Z.names.length c')) _ HY.out.1 Try.underlying36 rfl pk_size ?_
    go_simp
    refine wpList_callC rfl (some 117) rfl 18 #[.agg (p.cells (.slice A m c)).toArray, .agg (Z.cells (.slice A' Z.names.length c')).toArray] (by first | rfl | go_simp) _ hcall (fun e w' h => ⟨_, h.1⟩) ?_
    rintro v w9 ⟨he, g9⟩
    obtain ⟨bb, hbb⟩ : ∃ z, z = decide (p = Z) := ⟨_, rfl⟩
    rw [← hbb] at he
    obtain rfl : v = .bool bb := by injection he
    have HBB := Lib.hid hbb
    have HG9 := Lib.hid (HGZ.out.trans g9)
    clear he hbb g9 hcall
    go_wp2_with fail
    go_ret
    exact ⟨ret_bool (by rw [HBB.out, HZ.out]), HG9.out⟩
end Go.Proofs.Ytdlcpfgogjcciaa

namespace Go.Proofs.Ytdlcpfgogjcciaa
open Go.RowKit

/-- The document's writer at g: its bytes are a row of the call's own, from block base on. -/
structure RW (w : World) (g base : Nat) (bv : Value) (o : OBs) (N : Nat) : Prop where
  blk : Row w g [bv, .bool o.isNone]
  lt : g < base
  row : ∃ A n c bs, bv = .slice A n c ∧ Own w base A n c bs ∧ n ≤ N ∧ ∀ l, o = some l → l = bs
def VF (g base : Nat) (k : Nat) : Prop := k = g ∨ base ≤ k
def RWDone (w w' : World) (g base : Nat) (o : OBs) (N : Nat) : Prop := ∃ bv, RW w' g base bv o N ∧ Turn (VF g base) w w'
theorem RW.mono {w : World} {g base N M : Nat} {bv : Value} {o : OBs} (h : RW w g base bv o N) (k : N ≤ M) : RW w g base bv o M := by
  obtain ⟨h1, h0, A, n, c, bs, h2, h3, h4, h5⟩ := h
  exact ⟨h1, h0, A, n, c, bs, h2, h3, by omega, h5⟩
theorem RW.keep {w w' : World} {g base N : Nat} {bv : Value} {o : OBs} (h : RW w g base bv o N) (k : Grow w w') : RW w' g base bv o N := by
  obtain ⟨h1, h0, A, n, c, bs, h2, h3, h4, h5⟩ := h
  exact ⟨h1.keep k, h0, A, n, c, bs, h2, ⟨h3.1, h3.2.1, row_turnW h3.2.2 (Turn.grow k (fun _ => False)) (fun _ _ q => q)⟩, h4, h5⟩
theorem gd_pN (b : Bool) (o : OBs) (n : Int) (w : Nat) : gd b (pN o n w) = pN (gd b o) n w := by
  cases b <;> rfl
/-- The writer is spoilt. -/
theorem RW.odd {w : World} {g base N M : Nat} {bv : Value} {o : OBs} (h : RW w g base bv o N) (hM : N ≤ M) : RWDone w (w.setCell ⟨g, 1, none⟩ (.bool true)) g base none M := by
  obtain ⟨h1, h0, A, n, c, bs, rfl, h3, h4, h5⟩ := h
  have t5 : Turn (fun k => k = g) w (w.setCell ⟨g, 1, none⟩ (.bool true)) := Turn.setCell (F := fun k => k = g) w (p := ⟨g, 1, none⟩) rfl _
  exact ⟨_, ⟨h1.set (j := 1) (v := .bool true) (by simp), h0, A, n, c, bs, rfl, h3.turnW t5 h0, by omega, fun l hl => by cases hl⟩, t5.mono fun k e => .inl e⟩
/-- One number more. -/
theorem RW.step {w w6 : World} {g base N n2 c2 B : Nat} {bv : Value} {o o' : OBs} {A2 : Option Addr} {bs2 : List UInt8} (h : RW w g base bv o N) (g6 : Grow w w6) (o2 : Own w6 B A2 n2 c2 bs2) (hB : base ≤ B) (hn : n2 ≤ N + 8) (ho : o'.isNone = o.isNone) (hl : ∀ l, o' = some l → l = bs2) :
    RWDone w (w6.setCell ⟨g, 0, none⟩ (.slice A2 n2 c2)) g base o' (N + 8) := by
  have t3 : Turn (fun k => k = g) w6 (w6.setCell ⟨g, 0, none⟩ (.slice A2 n2 c2)) := Turn.setCell (F := fun k => k = g) w6 (p := ⟨g, 0, none⟩) rfl _
  refine ⟨.slice A2 n2 c2, ⟨?_, h.lt, A2, n2, c2, bs2, rfl, (o2.low hB).turnW t3 h.lt, hn, hl⟩, (Turn.grow g6 _).and (t3.mono fun k e => .inl e)⟩
  have := (h.blk.keep g6).set (j := 0) (v := .slice A2 n2 c2) (by simp)
  rw [ho]
  exact this

set_option maxHeartbeats 8000000 in
set_option maxRecDepth 8000 in
theorem rw_num {w : World} {g base N : Nat} {bv : Value} {o : OBs} (h : RW w g base bv o N) (hb : base ≤ w.heap.size) (n : Int) (hn : i64B n) (wd : Nat) (z : Int) (hz : z = (wd : Int)) (hw : wd ≤ 8) (lo hi : Int) (hN : N ≤ 3500000000000) :
    Calls Try.prog 89 #[.pointer (some ⟨g, 0, none⟩), .int .i64 n, .int .i64 z, .int .i64 lo, .int .i64 hi] w fun e w' => e = .returned (.tuple #[]) ∧ RWDone w w' g base (gd (decide (lo ≤ n ∧ n ≤ hi)) (pN o n wd)) (N + 8) := by
  subst hz
  obtain ⟨A, k, c, bs, rfl, hown, hk, hl⟩ := h.row
  have H := Lib.hid h
  have HS := Lib.hid hown.sl
  have HL := Lib.hid hl
  have HB := Lib.hid hb
  have HN8 := Lib.hid hn.2
  obtain ⟨d0, d1⟩ := h.blk.1.c2
  have hf0 := h.blk.2 0 (by simp)
  have hf1 := h.blk.2 1 (by simp)
  have hlg := h.blk.1.1
  have hlt := h.lt
  obtain ⟨fl, hfl⟩ : ∃ z, z = o.isNone := ⟨_, rfl⟩
  rw [← hfl] at d1
  clear h hown hl hfl hb hn
  go_enter Try.func89, Try.ntmps89
  go_wp2_with fail
  refine (ref1_fits n (wd : Int) w).mono ?_
  rintro e w1 ⟨rfl, rfl⟩
  cases hf : fitsB n (wd : Int) with
  | false =>
    have HE := Lib.hid (show gd (decide (lo ≤ n ∧ n ≤ hi)) (pN o n wd) = none by
      have : pN o n wd = none := by
        unfold pN
        cases o with
        | none => rfl
        | some l => show (if fitsB n (wd : Int) = true then _ else none) = none; rw [hf]; rfl
      rw [this]
      cases decide (lo ≤ n ∧ n ≤ hi) <;> rfl)
    have HD := Lib.hid (H.out.odd (M := N + 8) (by omega))
    clear hf
    go_wp2_with fail
    (try simp only [Exit.inBlock, Exit.then])
    refine bodyPost_ret (results_none rfl _ _ _) rfl ?_
    rw [HE.out]
    exact ⟨rfl, HD.out⟩
  | true =>
    by_cases hlo : n < lo
    · have HE := Lib.hid (show gd (decide (lo ≤ n ∧ n ≤ hi)) (pN o n wd) = none by rw [decide_eq_false (by omega)]; rfl)
      have HD := Lib.hid (H.out.odd (M := N + 8) (by omega))
      have z1 : decide (n < lo) = true := decide_eq_true hlo
      clear hf
      go_wp2_with fail
      (try simp only [Exit.inBlock, Exit.then])
      refine bodyPost_ret (results_none rfl _ _ _) rfl ?_
      rw [HE.out]
      exact ⟨rfl, HD.out⟩
    have z1 : decide (n < lo) = false := decide_eq_false hlo
    by_cases hhi : hi < n
    · have HE := Lib.hid (show gd (decide (lo ≤ n ∧ n ≤ hi)) (pN o n wd) = none by rw [decide_eq_false (by omega)]; rfl)
      have HD := Lib.hid (H.out.odd (M := N + 8) (by omega))
      have z2 : decide (hi < n) = true := decide_eq_true hhi
      clear hf
      go_wp2_with fail
      (try simp only [Exit.inBlock, Exit.then])
      refine bodyPost_ret (results_none rfl _ _ _) rfl ?_
      rw [HE.out]
      exact ⟨rfl, HD.out⟩
    have z2 : decide (hi < n) = false := decide_eq_false hhi
    have HE := Lib.hid (show gd (decide (lo ≤ n ∧ n ≤ hi)) (pN o n wd) = o.map (· ++ leB n.toNat wd) by
      rw [decide_eq_true (by omega)]
      cases o with
      | none => rfl
      | some l => exact pN_of hf l)
    have HF := Lib.hid hf
    clear hf
    go_wp2_with fail
    refine (rput_s (k + wd) HS.out HF.out HN8.out (by simp) (by omega)).mono ?_
    rintro e w2 ⟨A2, c2, rfl, hown, g2⟩
    have hlg2 := Nat.lt_of_lt_of_le hlg g2.size
    have HD := Lib.hid (H.out.step (o' := o.map (· ++ leB n.toNat wd)) g2 hown HB.out (by omega) (by cases o <;> rfl) (fun l hl => by
      obtain ⟨l', h1, h2⟩ := Option.map_eq_some_iff.1 hl
      rw [← h2, HL.out l' h1, Int.toNat_natCast]))
    have d0' := g2.cell d0
    have hf0' := (g2.cells.2 g 0 hlg).trans hf0
    clear hown g2 d0 d1 hf0 hf1
    go_wp2_with fail
    go_end0
    rw [HE.out]
    exact ⟨rfl, HD.out⟩

theorem RW.text {w w7 : World} {g base N n c : Nat} {A : Option Addr} {bs : List UInt8} {o : OBs} {v7 : Value} {s : ByteArray} (h : RW w g base (.slice A n c) o N) (hown : Own w base A n c bs) (hl : ∀ l, o = some l → l = bs) (hs : s.size ≤ 1048576) (hN : N ≤ 3500000000000)
    (q1 : OB w7 base v7 (bs ++ s.data.toList)) (q2 : w.grownBy w7 (Value.slice A n c).ownBlock) : (∃ A7 c7, v7 = .slice A7 (n + s.size) c7) ∧ Row w7 g [.slice A n c, .bool o.isNone] ∧ RWDone w (w7.setCell ⟨g, 0, none⟩ v7) g base (o.map (· ++ s.data.toList)) (N + s.size) := by
  have tg : Turn (fun k => (Value.slice A n c).ownBlock = some k) w w7 := Turn.grown q2 (fun _ h => h)
  have hlt := h.lt
  have hng : ¬ (Value.slice A n c).ownBlock = some g := fun e => by have := (World.ownsRow.lt hown.2.2 g e).1; omega
  have hrow := h.blk.turnW tg hng
  have hnl : n ≤ N := by
    obtain ⟨-, -, A', n', c', bs', e, h3, h4, h5⟩ := h
    injection e with e1 e2 e3
    omega
  have hl7 : (bs ++ s.data.toList).length = n + s.size := by rw [List.length_append, hown.1, data_length]
  obtain ⟨A7, c7, rfl, ho7⟩ := Own.ofOB q1 _ hl7 (by omega)
  have t7 : Turn (fun k => k = g) w7 (w7.setCell ⟨g, 0, none⟩ (.slice A7 (n + s.size) c7)) := Turn.setCell (F := fun k => k = g) w7 (p := ⟨g, 0, none⟩) rfl _
  refine ⟨⟨A7, c7, rfl⟩, hrow, .slice A7 (n + s.size) c7, ⟨?_, hlt, A7, _, c7, _, rfl, ho7.turnW t7 hlt, by omega, fun l hl' => ?_⟩, ?_⟩
  · have := hrow.set (j := 0) (v := .slice A7 (n + s.size) c7) (by simp)
    cases o <;> exact this
  · obtain ⟨l', h1, h2⟩ := Option.map_eq_some_iff.1 hl'
    rw [← h2, hl l' h1]
  · exact (tg.mono fun i e => .inr (World.ownsRow.lt hown.2.2 i e).1).and (t7.mono fun k e => .inl e)
theorem pT_num (o : OBs) (s : ByteArray) (wd : Nat) (most : Int) : pT o s wd most = (gd (decide (0 ≤ (s.size : Int) ∧ (s.size : Int) ≤ most)) (pN o s.size wd)).map (· ++ s.data.toList) := by
  rw [gd_pN]
  unfold pT
  rw [show decide (0 ≤ (s.size : Int) ∧ (s.size : Int) ≤ most) = decide ((s.size : Int) ≤ most) by
    rw [Bool.eq_iff_iff, decide_eq_true_iff, decide_eq_true_iff]; omega]

set_option maxHeartbeats 8000000 in
set_option maxRecDepth 8000 in
theorem rw_text {w : World} {g base N : Nat} {bv : Value} {o : OBs} (h : RW w g base bv o N) (hb : base ≤ w.heap.size) (s : ByteArray) (hs : s.size ≤ 1048576) (wd : Nat) (z : Int) (hz : z = (wd : Int)) (hw : wd ≤ 8) (most : Int) (hN : N ≤ 3000000000000) :
    Calls Try.prog 90 #[.pointer (some ⟨g, 0, none⟩), .string s, .int .i64 z, .int .i64 most] w fun e w' => e = .returned (.tuple #[]) ∧ RWDone w w' g base (pT o s wd most) (N + 8 + s.size) := by
  subst hz
  have H := Lib.hid h
  have HB := Lib.hid hb
  have hlg := h.blk.1.1
  have HP := Lib.hid (pT_num o s wd most)
  clear h hb
  go_enter Try.func90, Try.ntmps90
  go_wp2_with fail
  refine (rw_num H.out HB.out (s.size : Int) ⟨by omega, by omega⟩ wd _ rfl hw 0 most (by omega)).mono ?_
  rintro e w5 ⟨rfl, bv5, h5, t5⟩
  obtain ⟨o5, ho5⟩ : ∃ z, z = gd (decide (0 ≤ (s.size : Int) ∧ (s.size : Int) ≤ most)) (pN o s.size wd) := ⟨_, rfl⟩
  rw [← ho5] at h5 HP
  obtain ⟨A, n, c, bs, rfl, hown, hn5, hl5⟩ := h5.row
  have H5 := Lib.hid h5
  have HO5 := Lib.hid hown
  have HL5 := Lib.hid hl5
  have T5 := Lib.hid t5
  obtain ⟨d0, d1⟩ := h5.blk.1.c2
  have hlg5 := h5.blk.1.1
  have HLB := Lib.hid (show bs.length + s.size ≤ 140737488355328 by have := hown.1; have := hown.2.1; omega)
  have HZ5 := Lib.hid (show base ≤ w5.heap.size from Nat.le_trans HB.out t5.size)
  clear h5 hown hl5 t5 ho5 d1
  go_wp2_with (at_builtin; go_loud (refine wpList_appT rfl (.tmp 18) (.tmp 19) rfl base _ bs rfl HO5.out.2.2 s (by first | rfl | simp) HLB.out HZ5.out ?_; intro v7 w7 q1 q2; obtain ⟨⟨A7, c7, hv7⟩, hrow, hdone⟩ := RW.text H5.out HO5.out HL5.out hs (by omega) q1 q2; have HD := Lib.hid hdone; have f0 := hrow.1.c2.1; have f1 := hrow.2 0 (by simp); have f2 := hrow.1.1; clear hrow hdone q1 q2; subst hv7))
  go_wp2_with fail
  go_end0
  rw [HP.out]
  obtain ⟨bv', hw', ht'⟩ := HD.out
  exact ⟨rfl, bv', hw', T5.out.and ht'⟩
end Go.Proofs.Ytdlcpfgogjcciaa

namespace Go.Proofs.Ytdlcpfgogjcciaa
open Go.RowKit Go.Great

theorem gd_all {n : Int} (h : i64B n) (o : OBs) (w : Nat) : gd (decide ((0 : Int) ≤ n ∧ n ≤ 9223372036854775807)) (pN o n w) = pN o n w := by
  by_cases h0 : 0 ≤ n
  · rw [decide_eq_true ⟨h0, h.2⟩]; rfl
  · rw [decide_eq_false (fun q => h0 q.1)]
    cases o with
    | none => rfl
    | some l =>
      show none = (if fitsB n w = true then some (l ++ leB n.toNat w) else none)
      have : fitsB n w = false := by unfold fitsB; rw [decide_eq_false]; exact fun q => h0 q.1
      rw [this]; rfl
theorem pN_none (n : Int) (w : Nat) : pN none n w = none := rfl
theorem gd_none (b : Bool) : gd b none = none := by cases b <;> rfl
theorem gd_num (lo hi n : Int) (o : OBs) (w : Nat) (b : Bool) (h : b = decide (lo ≤ n ∧ n ≤ hi)) : gd (decide (lo ≤ n ∧ n ≤ hi)) (pN o n w) = pN (gd b o) n w := by rw [gd_pN, h]
/-- What Inner answers. -/
def InnAns (w w' : World) (e : Ending) (p : PK) : Prop := ∃ A n c bs, e = .returned (.tuple #[.slice A n c, .bool (decide ((innerP p).isSome = true ∧ normP p = p))]) ∧ Own w' w.heap.size A n c bs ∧ n ≤ 4000000000000 ∧ ∀ l, innerP p = some l → l = bs
theorem inn_bool {p : PK} {o : OBs} {bb : Bool} (h : o = innerP p) (hb : bb = decide (p = normP p)) : decide ((innerP p).isSome = true ∧ normP p = p) = (!o.isNone && bb) := by
  rw [h, hb, Bool.eq_iff_iff, decide_eq_true_iff, Bool.and_eq_true, decide_eq_true_iff]
  cases innerP p <;> simp [eq_comm]
theorem VF.off {b g base : Nat} (h1 : b ≠ g) (h2 : b < base) : ¬ VF g base b := fun h => by
  rcases h with h | h
  · exact h1 h
  · omega
def blkP (p : PK) : List Int := [p.b0, p.b1, p.b2, p.b3]
theorem blkP_cell {w : World} {x k : Nat} {p : PK} {nv : Value} (h : Blk w x (p.cells nv)) (hk : k < 4) : ∃ n, (blkP p)[k]? = some n ∧ w.cell? ⟨x, 31 + k, none⟩ = some (.int .i64 n) := by
  match k, hk with
  | 0, _ => exact ⟨_, rfl, h.2 31 _ rfl⟩
  | 1, _ => exact ⟨_, rfl, h.2 32 _ rfl⟩
  | 2, _ => exact ⟨_, rfl, h.2 33 _ rfl⟩
  | 3, _ => exact ⟨_, rfl, h.2 34 _ rfl⟩
theorem blkP_ok {p : PK} (h : p.ok) {k : Nat} {n : Int} (hk : (blkP p)[k]? = some n) : i64B n := by
  match k, hk with
  | 0, hk => injection hk with hk; exact hk ▸ h.b0
  | 1, hk => injection hk with hk; exact hk ▸ h.b1
  | 2, hk => injection hk with hk; exact hk ▸ h.b2
  | 3, hk => injection hk with hk; exact hk ▸ h.b3
  | k + 4, hk => cases hk
def BwInv (w wr : World) (g base : Nat) (o : OBs) (l : List Int) (N : Nat) (i : Value) : Prop := ∃ k : Nat, i = .int .i64 (k : Int) ∧ k ≤ 4 ∧ RWDone w wr g base (pNs o (l.take k) 1) (N + 8 * k)
def NwInv (w wr : World) (g base : Nat) (o : OBs) (l : List ByteArray) (N m : Nat) (i : Value) : Prop := ∃ k : Nat, i = .int .i64 (k : Int) ∧ k ≤ m ∧ RWDone w wr g base (pTs o (l.take k)) (N + 1048584 * k)
end Go.Proofs.Ytdlcpfgogjcciaa

namespace Go.Proofs.Ytdlcpfgogjcciaa
open Go.RowKit Go.Great

set_option maxHeartbeats 16000000 in
set_option maxRecDepth 8000 in
theorem m_inner0 {w : World} {A : Option Addr} {c : Nat} (p : PK) (hp : p.ok) (hr : RS w A p.names.length p.names) (hk : ¬ (1 ≤ p.kind ∧ p.kind ≤ 5)) :
    Calls Try.prog 63 #[.agg (p.cells (.slice A p.names.length c)).toArray] w fun e w' => InnAns w w' e p ∧ Grow w w' := by
  obtain ⟨m, hm⟩ : ∃ m, m = p.names.length := ⟨_, rfl⟩
  have HP := Lib.hid hp
  have HM := Lib.hid hm
  have HR0 := Lib.hid hr
  have h300 : m ≤ 1048576 := by rw [hm]; exact hp.names.1
  rw [← hm] at HR0 ⊢
  clear hm hr hp
  rw [show (p.cells (.slice A m c)).toArray = #[.int .i64 p.kind, .int .i64 p.client, .int .i64 p.epoch, .int .i64 p.seq, .int .i64 p.op, .int .i64 p.at_, .int .i64 p.n, .string p.data, .int .i64 p.old, .int .i64 p.new, .int .i64 p.ckind, .string p.path, .string p.path2, .int .i64 p.flags, .int .i64 p.cfd, .int .i64 p.coff, .int .i64 p.cn, .string p.cdata, .int .i64 p.ino, .int .i64 p.errno, .int .i64 p.rerrno, .int .i64 p.rfd, .string p.rdata, .slice A m c, .int .i64 p.ikind, .int .i64 p.ilinks, .int .i64 p.isize, .int .i64 p.wrote, .int .i64 p.nkind, .int .i64 p.nlinks, .int .i64 p.nsize, .int .i64 p.b0, .int .i64 p.b1, .int .i64 p.b2, .int .i64 p.b3, .int .i64 p.o0, .int .i64 p.o1, .int .i64 p.o2, .int .i64 p.o3, .int .i64 p.o4, .int .i64 p.o5, .int .i64 p.o6, .int .i64 p.o7] from rfl]
  obtain ⟨kd, hkd⟩ : ∃ z, z = p.kind := ⟨_, rfl⟩
  have HKD := Lib.hid hkd
  have HK := Lib.hid hk
  clear hk hkd
  go_enter Try.func63, Try.ntmps63
  go_upto_region 1 with (fail)
  have hb := Blk.new w 36 (p.cells (.slice A m c)) #[.int .i64 p.kind, .int .i64 p.client, .int .i64 p.epoch, .int .i64 p.seq, .int .i64 p.op, .int .i64 p.at_, .int .i64 p.n, .string p.data, .int .i64 p.old, .int .i64 p.new, .int .i64 p.ckind, .string p.path, .string p.path2, .int .i64 p.flags, .int .i64 p.cfd, .int .i64 p.coff, .int .i64 p.cn, .string p.cdata, .int .i64 p.ino, .int .i64 p.errno, .int .i64 p.rerrno, .int .i64 p.rfd, .string p.rdata, .slice A m c, .int .i64 p.ikind, .int .i64 p.ilinks, .int .i64 p.isize, .int .i64 p.wrote, .int .i64 p.nkind, .int .i64 p.nlinks, .int .i64 p.nsize, .int .i64 p.b0, .int .i64 p.b1, .int .i64 p.b2, .int .i64 p.b3, .int .i64 p.o0, .int .i64 p.o1, .int .i64 p.o2, .int .i64 p.o3, .int .i64 p.o4, .int .i64 p.o5, .int .i64 p.o6, .int .i64 p.o7] (0, 0) rfl
  have ga := (Grow.refl w).alloc (.cells #[.int .i64 p.kind, .int .i64 p.client, .int .i64 p.epoch, .int .i64 p.seq, .int .i64 p.op, .int .i64 p.at_, .int .i64 p.n, .string p.data, .int .i64 p.old, .int .i64 p.new, .int .i64 p.ckind, .string p.path, .string p.path2, .int .i64 p.flags, .int .i64 p.cfd, .int .i64 p.coff, .int .i64 p.cn, .string p.cdata, .int .i64 p.ino, .int .i64 p.errno, .int .i64 p.rerrno, .int .i64 p.rfd, .string p.rdata, .slice A m c, .int .i64 p.ikind, .int .i64 p.ilinks, .int .i64 p.isize, .int .i64 p.wrote, .int .i64 p.nkind, .int .i64 p.nlinks, .int .i64 p.nsize, .int .i64 p.b0, .int .i64 p.b1, .int .i64 p.b2, .int .i64 p.b3, .int .i64 p.o0, .int .i64 p.o1, .int .i64 p.o2, .int .i64 p.o3, .int .i64 p.o4, .int .i64 p.o5, .int .i64 p.o6, .int .i64 p.o7] 36)
  obtain ⟨w1, hw1⟩ : ∃ z, z = w.alloc (.cells #[.int .i64 p.kind, .int .i64 p.client, .int .i64 p.epoch, .int .i64 p.seq, .int .i64 p.op, .int .i64 p.at_, .int .i64 p.n, .string p.data, .int .i64 p.old, .int .i64 p.new, .int .i64 p.ckind, .string p.path, .string p.path2, .int .i64 p.flags, .int .i64 p.cfd, .int .i64 p.coff, .int .i64 p.cn, .string p.cdata, .int .i64 p.ino, .int .i64 p.errno, .int .i64 p.rerrno, .int .i64 p.rfd, .string p.rdata, .slice A m c, .int .i64 p.ikind, .int .i64 p.ilinks, .int .i64 p.isize, .int .i64 p.wrote, .int .i64 p.nkind, .int .i64 p.nlinks, .int .i64 p.nsize, .int .i64 p.b0, .int .i64 p.b1, .int .i64 p.b2, .int .i64 p.b3, .int .i64 p.o0, .int .i64 p.o1, .int .i64 p.o2, .int .i64 p.o3, .int .i64 p.o4, .int .i64 p.o5, .int .i64 p.o6, .int .i64 p.o7] 36) := ⟨_, rfl⟩
  obtain ⟨x, hx⟩ : ∃ z, z = w.heap.size := ⟨_, rfl⟩
  rw [← hw1] at hb ga ⊢
  rw [← hx] at hb ⊢
  obtain ⟨P0, hP0⟩ : ∃ z, z = Value.agg #[.int .i64 p.kind, .int .i64 p.client, .int .i64 p.epoch, .int .i64 p.seq, .int .i64 p.op, .int .i64 p.at_, .int .i64 p.n, .string p.data, .int .i64 p.old, .int .i64 p.new, .int .i64 p.ckind, .string p.path, .string p.path2, .int .i64 p.flags, .int .i64 p.cfd, .int .i64 p.coff, .int .i64 p.cn, .string p.cdata, .int .i64 p.ino, .int .i64 p.errno, .int .i64 p.rerrno, .int .i64 p.rfd, .string p.rdata, .slice A m c, .int .i64 p.ikind, .int .i64 p.ilinks, .int .i64 p.isize, .int .i64 p.wrote, .int .i64 p.nkind, .int .i64 p.nlinks, .int .i64 p.nsize, .int .i64 p.b0, .int .i64 p.b1, .int .i64 p.b2, .int .i64 p.b3, .int .i64 p.o0, .int .i64 p.o1, .int .i64 p.o2, .int .i64 p.o3, .int .i64 p.o4, .int .i64 p.o5, .int .i64 p.o6, .int .i64 p.o7] := ⟨_, rfl⟩
  rw [← hP0]
  have BX1 := Lib.hid hb
  have HG1 := Lib.hid ga
  have HX := Lib.hid hx
  have HR1 := Lib.hid (HR0.out.grow ga)
  clear hw1 hb ga hx hP0
  go_upto_region 2 with (fail)
  have hrow := Row.new w1 142 [.slice none 0 0, .bool false] _ rfl
  have ga := (Grow.refl w1).alloc (.cells #[.slice none 0 0, .bool false] 142)
  have hsz : (w1.alloc (.cells #[.slice none 0 0, .bool false] 142)).heap.size = w1.heap.size + 1 := by simp
  obtain ⟨w2, hw2⟩ : ∃ z, z = w1.alloc (.cells #[.slice none 0 0, .bool false] 142) := ⟨_, rfl⟩
  obtain ⟨g, hg⟩ : ∃ z, z = w1.heap.size := ⟨_, rfl⟩
  rw [← hw2] at hrow ga hsz ⊢
  rw [← hg] at hrow hsz ⊢
  obtain ⟨base, hbs⟩ : ∃ z, z = w2.heap.size := ⟨_, rfl⟩
  have hxl := BX1.out.1
  have hxg : ¬ x = g := by omega
  have hgb : g < base := by omega
  have hxb : x < base := by omega
  have hwb : w.heap.size ≤ g := by have := HX.out; omega
  have HW0 := Lib.hid (show RW w2 g base (.slice none 0 0) (some []) 0 from ⟨hrow, hgb, none, 0, 0, [], rfl, Own.nil _ _, Nat.le_refl _, fun l hl => by injection hl with hl; exact hl.symm⟩)
  have BX0 := Lib.hid (BX1.out.keep ga)
  have HG2 := Lib.hid (HG1.out.trans ga)
  have HT0 := Lib.hid (Turn.refl (VF g base) w2)
  have HR2 := Lib.hid (HR1.out.grow ga)
  have hb0 : base ≤ w2.heap.size := by omega
  have HVF := Lib.hid (show ¬ VF g base x from VF.off hxg hxb)
  have hlx := BX0.out.1
  clear hw2 hrow ga hg hsz hbs HR1 HG1 BX1
  have c0 : w2.cell? ⟨x, 0, none⟩ = some (.int .i64 kd) := by rw [HKD.out]; exact BX0.out.2 0 _ rfl
  go_wp2_with fail
  refine (rw_num HW0.out hb0 kd (by rw [HKD.out]; exact HP.out.kind) 1 1 rfl (by decide) 1 5 (by have := HP.out.data; have := HP.out.path; have := HP.out.path2; omega)).mono ?_
  rintro e v1 ⟨rfl, bv1, h2, t2⟩
  have HW1 := Lib.hid (show RW v1 g base bv1 none (0 + 8) by rw [← (show gd (decide ((1 : Int) ≤ kd ∧ kd ≤ 5)) (pN (some []) kd 1) = none from by rw [decide_eq_false (by rw [HKD.out]; exact HK.out)]; rfl)]; exact h2)
  have HT1 := Lib.hid (HT0.out.and t2)
  have BX1 := Lib.hid (BX0.out.turnW t2 HVF.out)
  have hb1 : base ≤ v1.heap.size := Nat.le_trans hb0 t2.size
  replace hlx := BX1.out.1
  clear h2 t2 c0 BX0 HW0 HT0 hb0
  have c0 : v1.cell? ⟨x, 0, none⟩ = some (.int .i64 kd) := by rw [HKD.out]; exact BX1.out.2 0 _ rfl
  have c1 := BX1.out.2 1 _ rfl
  go_wp2_with fail
  refine (rw_num HW1.out hb1 p.client HP.out.client 1 1 rfl (by decide) 1 8 (by have := HP.out.data; have := HP.out.path; have := HP.out.path2; omega)).mono ?_
  rintro e v2 ⟨rfl, bv2, h2, t2⟩
  have HW2 := Lib.hid (show RW v2 g base bv2 none ((0 + 8) + 8) by rw [← (show gd (decide ((1 : Int) ≤ p.client ∧ p.client ≤ 8)) (pN none p.client 1) = none from gd_none _)]; exact h2)
  have HT2 := Lib.hid (HT1.out.and t2)
  have BX2 := Lib.hid (BX1.out.turnW t2 HVF.out)
  have hb2 : base ≤ v2.heap.size := Nat.le_trans hb1 t2.size
  replace hlx := BX2.out.1
  clear h2 t2 c0 c1 BX1 HW1 HT1 hb1
  have c0 : v2.cell? ⟨x, 0, none⟩ = some (.int .i64 kd) := by rw [HKD.out]; exact BX2.out.2 0 _ rfl
  have c2 := BX2.out.2 2 _ rfl
  go_wp2_with fail
  refine (rw_num HW2.out hb2 p.epoch HP.out.epoch 4 4 rfl (by decide) 0 9223372036854775807 (by have := HP.out.data; have := HP.out.path; have := HP.out.path2; omega)).mono ?_
  rintro e v3 ⟨rfl, bv3, h2, t2⟩
  have HW3 := Lib.hid (show RW v3 g base bv3 none (((0 + 8) + 8) + 8) by rw [← (show gd (decide ((0 : Int) ≤ p.epoch ∧ p.epoch ≤ 9223372036854775807)) (pN none p.epoch 4) = none from gd_none _)]; exact h2)
  have HT3 := Lib.hid (HT2.out.and t2)
  have BX3 := Lib.hid (BX2.out.turnW t2 HVF.out)
  have hb3 : base ≤ v3.heap.size := Nat.le_trans hb2 t2.size
  replace hlx := BX3.out.1
  clear h2 t2 c0 c2 BX2 HW2 HT2 hb2
  have c0 : v3.cell? ⟨x, 0, none⟩ = some (.int .i64 kd) := by rw [HKD.out]; exact BX3.out.2 0 _ rfl
  have c3 := BX3.out.2 3 _ rfl
  go_wp2_with fail
  refine (rw_num HW3.out hb3 p.seq HP.out.seq 8 8 rfl (by decide) 0 9223372036854775807 (by have := HP.out.data; have := HP.out.path; have := HP.out.path2; omega)).mono ?_
  rintro e v4 ⟨rfl, bv4, h2, t2⟩
  have HW4 := Lib.hid (show RW v4 g base bv4 none ((((0 + 8) + 8) + 8) + 8) by rw [← (show gd (decide ((0 : Int) ≤ p.seq ∧ p.seq ≤ 9223372036854775807)) (pN none p.seq 8) = none from gd_none _)]; exact h2)
  have HT4 := Lib.hid (HT3.out.and t2)
  have BX4 := Lib.hid (BX3.out.turnW t2 HVF.out)
  have hb4 : base ≤ v4.heap.size := Nat.le_trans hb3 t2.size
  replace hlx := BX4.out.1
  clear h2 t2 c0 c3 BX3 HW3 HT3 hb3
  have c0 : v4.cell? ⟨x, 0, none⟩ = some (.int .i64 kd) := by rw [HKD.out]; exact BX4.out.2 0 _ rfl
  have HQK := Lib.hid (show kd < 1 ∨ 5 < kd by rw [HKD.out]; have := HK.out; omega)
  have q1 : (kd == 1) = false := beq_eq_false_iff_ne.2 (by have := HQK.out; omega)
  have q2 : (kd == 2) = false := beq_eq_false_iff_ne.2 (by have := HQK.out; omega)
  have q3 : (kd == 3) = false := beq_eq_false_iff_ne.2 (by have := HQK.out; omega)
  have q4 : (kd == 4) = false := beq_eq_false_iff_ne.2 (by have := HQK.out; omega)
  have q5 : (kd == 5) = false := beq_eq_false_iff_ne.2 (by have := HQK.out; omega)
  have HIN := Lib.hid (show none = innerP p from (kind0 HK.out).symm)
  obtain ⟨oE, hoE⟩ : ∃ z, z = none := ⟨_, rfl⟩
  rw [← hoE] at HW4 HIN
  clear hoE
  have HRZ := HR2.out.turnW HT4.out (fun hn q hq => VF.off (HR0.out.ne hwb hn q hq) (by obtain ⟨b, o, e, hb, -⟩ := HR0.out.2.2 hn; rw [e] at hq; injection hq with hq; subst hq; show b < base; omega))
  rw [HM.out] at HRZ
  have hcall := m_others (c := c) p HRZ (by rw [← HM.out]; exact h300)
  rw [← HM.out] at hcall
  clear HRZ
  go_upto_region 46 with (fail)
  refine wp_region_list ?_
  refine wpList_loadRow rfl 36 (.tmp 1) rfl (some 195) rfl x rfl (p.cells (.slice A m c)) _ BX4.out Try.underlying36 rfl pk_size ?_
  go_simp
  refine wpList_callC rfl (some 196) rfl 91 #[.agg (p.cells (.slice A m c)).toArray] (by first | rfl | go_simp) _ hcall (fun e w' h => ⟨_, h.1⟩) ?_
  rintro v w9 ⟨he, g9⟩
  obtain ⟨bb, hbb⟩ : ∃ z, z = decide (p = normP p) := ⟨_, rfl⟩
  rw [← hbb] at he
  obtain rfl : v = .bool bb := by injection he
  have HAN := Lib.hid (inn_bool HIN.out hbb)
  have HW9 := Lib.hid (HW4.out.keep g9)
  have HG9 := Lib.hid (show Grow w w9 from HG2.out.low ((HT4.out.low (B := w.heap.size) (fun i e => by rcases e with e | e <;> omega) HG2.out.size).trans (Below.mono g9 (by have := HT4.out.size; have := HG2.out.size; omega))))
  clear he hbb g9 hcall c0 HW4 HT4 BX4
  obtain ⟨A9, n9, c9, bs9, hbv, hown9, hn9, hl9⟩ := HW9.out.row
  subst hbv
  obtain ⟨d0, d1⟩ := HW9.out.blk.1.c2
  obtain ⟨fl, hfl⟩ : ∃ z, z = oE.isNone := ⟨_, rfl⟩
  rw [← hfl] at d1 HAN
  have HO9 := Lib.hid (show Own w9 w.heap.size A9 n9 c9 bs9 from hown9.low (by omega))
  have HL9 := Lib.hid (show ∀ l, innerP p = some l → l = bs9 from fun l hl => hl9 l (HIN.out.trans hl))
  have HN9 := Lib.hid (show n9 ≤ 4000000000000 by have := HP.out.data; have := HP.out.path; have := HP.out.path2; omega)
  clear hfl hown9 hn9 hl9
  cases fl with
  | true =>
    go_wp2_with fail
    go_quiet (fail)
    go_wp2_with fail
    go_ret2
    have hgq : Grow w9 (w9.drewN nq) := (Grow.refl _).drewN _
    exact ⟨⟨A9, n9, c9, bs9, by rw [HAN.out]; rfl, ⟨HO9.out.1, HO9.out.2.1, row_turnW HO9.out.2.2 (Turn.grow hgq (fun _ => False)) (fun _ _ q => q)⟩, HN9.out, HL9.out⟩, HG9.out.trans hgq⟩
  | false =>
    go_wp2_with fail
    go_quiet (fail)
    go_wp2_with fail
    go_ret2
    have hgq : Grow w9 (w9.drewN nq) := (Grow.refl _).drewN _
    exact ⟨⟨A9, n9, c9, bs9, by rw [HAN.out]; rfl, ⟨HO9.out.1, HO9.out.2.1, row_turnW HO9.out.2.2 (Turn.grow hgq (fun _ => False)) (fun _ _ q => q)⟩, HN9.out, HL9.out⟩, HG9.out.trans hgq⟩
end Go.Proofs.Ytdlcpfgogjcciaa
