/- The walk of the statement WireOwns. No statement of the seat is proved here. -/
import Derived.Test.YtgjcpchlijpjmaaZ16
import Derived.Test.YtgjcpchlijpjmaaZ23
namespace Go.Proofs.Ytgjcpchlijpjmaa
open Go.RowKit Go.Great

theorem RS.lt {w : World} {A : Option Addr} {n : Nat} {l : List ByteArray} (h : RS w A n l) : 0 < n → ∀ q, A = some q → q.block < w.heap.size := by
  intro hn q hq
  obtain ⟨b, o, e, hb, -⟩ := h.2.2 hn
  rw [e] at hq
  injection hq with hq
  subst hq
  exact hb
theorem Own.atB {w : World} {base n c k : Nat} {A : Option Addr} {bs : List UInt8} (h : Own w base A n c bs) (hk : AtB A k) : base ≤ k ∧ k < w.heap.size := (AnyRow.of_own h).blk k hk
theorem Own.off {w w' : World} {F : Nat → Prop} {base n c : Nat} {A : Option Addr} {bs : List UInt8} (h : Own w base A n c bs) (t : Turn F w w') (hF : ∀ k, AtB A k → ¬ F k) : Own w' base A n c bs :=
  ⟨h.1, h.2.1, row_turnW h.2.2 t fun g hg => hF g (by
    cases A with
    | none => cases hg
    | some a => injection hg with hg; exact ⟨a, rfl, hg⟩)⟩
def FilInv (w wr : World) (base : Nat) (e : TypeId) (A : Option Addr) (n c : Nat) (t : Value) : Prop := ∃ j : Nat, t = .int .i64 (j : Int) ∧ j ≤ n ∧ AnyRow wr base e A n c ∧ Turn (AtB A) w wr

set_option maxHeartbeats 16000000 in
set_option maxRecDepth 8000 in
theorem law_WireOwns (p : PK) (A : Option Addr) (m cc : Nat) (W : World) (hr : RS W A m p.names) (hp : p.nums) :
    Calls Try.prog 8 #[.agg (p.cells (.slice A m cc)).toArray] W fun e w' => e = .returned (.bool true) ∧ Below W.heap.size W w' := by
  have HR0 := Lib.hid hr
  have HNUM := Lib.hid hp
  clear hr hp
  rw [show (p.cells (.slice A m cc)).toArray = #[.int .i64 p.kind, .int .i64 p.client, .int .i64 p.epoch, .int .i64 p.seq, .int .i64 p.op, .int .i64 p.at_, .int .i64 p.n, .string p.data, .int .i64 p.old, .int .i64 p.new, .int .i64 p.ckind, .string p.path, .string p.path2, .int .i64 p.flags, .int .i64 p.cfd, .int .i64 p.coff, .int .i64 p.cn, .string p.cdata, .int .i64 p.ino, .int .i64 p.errno, .int .i64 p.rerrno, .int .i64 p.rfd, .string p.rdata, .slice A m cc, .int .i64 p.ikind, .int .i64 p.ilinks, .int .i64 p.isize, .int .i64 p.wrote, .int .i64 p.nkind, .int .i64 p.nlinks, .int .i64 p.nsize, .int .i64 p.b0, .int .i64 p.b1, .int .i64 p.b2, .int .i64 p.b3, .int .i64 p.o0, .int .i64 p.o1, .int .i64 p.o2, .int .i64 p.o3, .int .i64 p.o4, .int .i64 p.o5, .int .i64 p.o6, .int .i64 p.o7] from rfl]
  go_enter Try.func8, Try.ntmps8
  go_upto_region 1 with (fail)
  have hb := Row.new W 35 (p.cells (.slice A m cc)) #[.int .i64 p.kind, .int .i64 p.client, .int .i64 p.epoch, .int .i64 p.seq, .int .i64 p.op, .int .i64 p.at_, .int .i64 p.n, .string p.data, .int .i64 p.old, .int .i64 p.new, .int .i64 p.ckind, .string p.path, .string p.path2, .int .i64 p.flags, .int .i64 p.cfd, .int .i64 p.coff, .int .i64 p.cn, .string p.cdata, .int .i64 p.ino, .int .i64 p.errno, .int .i64 p.rerrno, .int .i64 p.rfd, .string p.rdata, .slice A m cc, .int .i64 p.ikind, .int .i64 p.ilinks, .int .i64 p.isize, .int .i64 p.wrote, .int .i64 p.nkind, .int .i64 p.nlinks, .int .i64 p.nsize, .int .i64 p.b0, .int .i64 p.b1, .int .i64 p.b2, .int .i64 p.b3, .int .i64 p.o0, .int .i64 p.o1, .int .i64 p.o2, .int .i64 p.o3, .int .i64 p.o4, .int .i64 p.o5, .int .i64 p.o6, .int .i64 p.o7] rfl
  have ga := (Grow.refl W).alloc (.cells #[.int .i64 p.kind, .int .i64 p.client, .int .i64 p.epoch, .int .i64 p.seq, .int .i64 p.op, .int .i64 p.at_, .int .i64 p.n, .string p.data, .int .i64 p.old, .int .i64 p.new, .int .i64 p.ckind, .string p.path, .string p.path2, .int .i64 p.flags, .int .i64 p.cfd, .int .i64 p.coff, .int .i64 p.cn, .string p.cdata, .int .i64 p.ino, .int .i64 p.errno, .int .i64 p.rerrno, .int .i64 p.rfd, .string p.rdata, .slice A m cc, .int .i64 p.ikind, .int .i64 p.ilinks, .int .i64 p.isize, .int .i64 p.wrote, .int .i64 p.nkind, .int .i64 p.nlinks, .int .i64 p.nsize, .int .i64 p.b0, .int .i64 p.b1, .int .i64 p.b2, .int .i64 p.b3, .int .i64 p.o0, .int .i64 p.o1, .int .i64 p.o2, .int .i64 p.o3, .int .i64 p.o4, .int .i64 p.o5, .int .i64 p.o6, .int .i64 p.o7] 35)
  obtain ⟨w1, hw1⟩ : ∃ z, z = W.alloc (.cells #[.int .i64 p.kind, .int .i64 p.client, .int .i64 p.epoch, .int .i64 p.seq, .int .i64 p.op, .int .i64 p.at_, .int .i64 p.n, .string p.data, .int .i64 p.old, .int .i64 p.new, .int .i64 p.ckind, .string p.path, .string p.path2, .int .i64 p.flags, .int .i64 p.cfd, .int .i64 p.coff, .int .i64 p.cn, .string p.cdata, .int .i64 p.ino, .int .i64 p.errno, .int .i64 p.rerrno, .int .i64 p.rfd, .string p.rdata, .slice A m cc, .int .i64 p.ikind, .int .i64 p.ilinks, .int .i64 p.isize, .int .i64 p.wrote, .int .i64 p.nkind, .int .i64 p.nlinks, .int .i64 p.nsize, .int .i64 p.b0, .int .i64 p.b1, .int .i64 p.b2, .int .i64 p.b3, .int .i64 p.o0, .int .i64 p.o1, .int .i64 p.o2, .int .i64 p.o3, .int .i64 p.o4, .int .i64 p.o5, .int .i64 p.o6, .int .i64 p.o7] 35) := ⟨_, rfl⟩
  obtain ⟨x, hx⟩ : ∃ z, z = W.heap.size := ⟨_, rfl⟩
  rw [← hw1] at hb ga ⊢
  rw [← hx] at hb ⊢
  obtain ⟨P0, hP0⟩ : ∃ z, z = Value.agg #[.int .i64 p.kind, .int .i64 p.client, .int .i64 p.epoch, .int .i64 p.seq, .int .i64 p.op, .int .i64 p.at_, .int .i64 p.n, .string p.data, .int .i64 p.old, .int .i64 p.new, .int .i64 p.ckind, .string p.path, .string p.path2, .int .i64 p.flags, .int .i64 p.cfd, .int .i64 p.coff, .int .i64 p.cn, .string p.cdata, .int .i64 p.ino, .int .i64 p.errno, .int .i64 p.rerrno, .int .i64 p.rfd, .string p.rdata, .slice A m cc, .int .i64 p.ikind, .int .i64 p.ilinks, .int .i64 p.isize, .int .i64 p.wrote, .int .i64 p.nkind, .int .i64 p.nlinks, .int .i64 p.nsize, .int .i64 p.b0, .int .i64 p.b1, .int .i64 p.b2, .int .i64 p.b3, .int .i64 p.o0, .int .i64 p.o1, .int .i64 p.o2, .int .i64 p.o3, .int .i64 p.o4, .int .i64 p.o5, .int .i64 p.o6, .int .i64 p.o7] := ⟨_, rfl⟩
  rw [← hP0]
  have HXx := Lib.hid hb
  have HGx := Lib.hid ga
  have HQx := Lib.hid hx
  have hlx : x < w1.heap.size := hb.1.1
  clear hw1 hb ga hx hP0
  replace HR0 := Lib.hid (HR0.out.grow HGx.out)
  go_upto_region 1 with (fail)
  have hfew := few_l (c := cc) p HR0.out
  have hpok := fewP_ok HNUM.out
  obtain ⟨P, hP⟩ : ∃ z, z = fewP p := ⟨_, rfl⟩
  rw [← hP] at hfew hpok
  have HPP := Lib.hid hpok
  clear hP hpok
  refine wp_region_list ?_
  refine wpList_loadRow rfl 35 (.tmp 1) rfl (some 14) rfl x rfl (p.cells (.slice A m cc)) _ HXx.out.1 Try.underlying35 rfl pk_size ?_
  go_simp
  refine wpList_callC rfl (some 15) rfl 9 #[.agg (p.cells (.slice A m cc)).toArray] (by first | rfl | go_simp) _ hfew (fun e w' h => by obtain ⟨_, h, -⟩ := h; exact ⟨_, h⟩) ?_
  rintro v wf2 ⟨nv, he, g6, os6⟩
  obtain rfl : v = .agg (P.cells nv).toArray := by injection he
  go_simp
  refine wpList_storeRow rfl 35 (.tmp 1) (.tmp 15) rfl rfl x rfl (P.cells nv) (p.cells (.slice A m cc)) rfl (HXx.out.keep g6) rfl pk_size (PK.one _ os6.one) ?_
  intro w2 r8 t8 z8
  have OS8 : OS w2 w1.heap.size nv P.names := row_turnW os6 t8 (fun k e q => by have := (World.ownsRow.lt os6 k e).1; have q' : k = x := q; omega)
  obtain ⟨AP, cP, rfl, hrs⟩ := RS.of_OS OS8
  obtain ⟨kP, hk⟩ : ∃ z, z = P.names.length := ⟨_, rfl⟩
  rw [← hk] at hrs r8
  have HKP := Lib.hid hk
  replace HXx := Lib.hid r8
  have HRP := Lib.hid hrs
  have HNE := Lib.hid (show 0 < kP → ∀ z, AP = some z → w1.heap.size ≤ z.block from fun hn z hz => by
    subst hz
    exact (World.ownsRow.lt OS8 z.block rfl).1)
  replace hlx := r8.1.1
  have HGf2 := Lib.hid (show Turn (fun k => k = x) w1 w2 from (Turn.grow g6 _).and t8)
  clear he hfew g6 os6 OS8 hrs r8 t8 z8 hk
  have HB := Lib.hid (show Grow W w2 from HGx.out.low (HGf2.out.low (B := W.heap.size) (fun i e => by have := HQx.out; have e' : i = x := e; omega) HGx.out.size))
  have HRl := Lib.hid (show 0 < kP → ∀ q, AP = some q → q.block < w2.heap.size from HRP.out.lt)
  have hx2 : x < w2.heap.size := hlx
  have HBW2 := Lib.hid (show W.heap.size ≤ w2.heap.size from HB.out.size)
  clear HGf2 HGx HNE
  go_upto_region 2 with (fail)
  have hput := w_putK (c := cP) P HPP.out HKP.out HRP.out
  refine wp_region_list ?_
  refine wpList_loadRow rfl 35 (.tmp 1) rfl (some 17) rfl x rfl (P.cells (.slice AP kP cP)) _ HXx.out.1 Try.underlying35 rfl pk_size ?_
  go_simp
  refine wpList_callC rfl (some 18) rfl 10 #[.agg (P.cells (.slice AP kP cP)).toArray] (by first | rfl | go_simp) _ hput (fun e w' h => by obtain ⟨_, _, _, h, -⟩ := h; exact ⟨_, h⟩) ?_
  rintro v w3 ⟨A3, n3, c3, he, ho, G3⟩
  obtain rfl : v = .tuple #[.slice A3 n3 c3, .int .i64 (putE P)] := by injection he
  have HO3 := Lib.hid (show Own w3 w2.heap.size A3 n3 c3 (putL P) from ho)
  replace HXx := Lib.hid (HXx.out.keep G3)
  replace HRP := Lib.hid (HRP.out.grow G3)
  clear he ho hput
  have HB3 := Lib.hid (Grow.trans HB.out G3)
  have HZ23 := Lib.hid (show w2.heap.size ≤ w3.heap.size from G3.size)
  have HAa := Lib.hid (show ∀ k, AtB A3 k → w2.heap.size ≤ k ∧ k < w3.heap.size from fun k hk => HO3.out.atB hk)
  clear G3 HB
  obtain ⟨pe, hpe⟩ : ∃ z, z = putE P := ⟨_, rfl⟩
  rw [← hpe]
  have HPE := Lib.hid hpe
  clear hpe
  by_cases hp0 : pe = 0
  · subst hp0
    have HPR := Lib.hid (put_read HPP.out HPE.out.symm)
    have HN3 := Lib.hid HO3.out.1
    have HF3 := Lib.hid (putL_few HPP.out)
    obtain ⟨bz, hbz⟩ : ∃ z, z = putL P := ⟨_, rfl⟩
    rw [← hbz] at HO3 HPR HN3 HF3
    have HBZ := Lib.hid hbz
    have hn3 : n3 ≤ 500000 := by have := HN3.out; have := HF3.out; omega
    clear hbz
    have HRD3 := Lib.hid (show Rd w3 w3.heap.size A3 1 n3 (bvs bz) from by have := HO3.out.sl.2.2; unfold RB at this; rw [HN3.out] at this; exact this)
    go_upto_region 7 with (at_builtin; go_loud (refine wpList_appB rfl (.tmp 29) (.tmp 30) rfl w3.heap.size _ [] rfl (OB.nil _ _) _ A3 _ bz n3 HN3.out.symm rfl HO3.out.sl.2.2 (by have := HN3.out; simp; omega) (Nat.le_refl _) ?_; intro v4 w4 q1 q2 q3 q4; clear q3 q4; rw [List.nil_append] at q1; obtain ⟨A4, c4, rfl, o4⟩ := Own.ofOB q1 n3 HN3.out (by omega); have HO4 := Lib.hid o4; have HG4 := Lib.hid (show Grow w3 w4 from q2); clear o4 q1 q2))
    have HAo := Lib.hid (show ∀ k, AtB A4 k → w3.heap.size ≤ k ∧ k < w4.heap.size from fun k hk => HO4.out.atB hk)
    replace HXx := Lib.hid (HXx.out.keep HG4.out)
    replace HRP := Lib.hid (HRP.out.grow HG4.out)
    replace HO3 := Lib.hid (HO3.out.keepW HG4.out)
    have HB4 := Lib.hid (Grow.trans HB3.out HG4.out)
    clear HRD3
    have hread := w_read HO3.out.sl HO3.out.cap (by omega) HO3.out.sl.blk
    obtain ⟨V5, hV5⟩ : ∃ z, z = rdV bz := ⟨_, rfl⟩
    obtain ⟨E5, hE5⟩ : ∃ z, z = rdE bz := ⟨_, rfl⟩
    rw [← hV5, ← hE5] at hread
    have HV5 := Lib.hid hV5
    have HE5 := Lib.hid hE5
    clear hV5 hE5
    refine wp_region_list ?_
    refine wpList_runTo rfl (some 33) rfl (.slice A3 n3 c3) w4 (by first | rfl | go_simp) ?_
    refine wpList_callC rfl (some 34) rfl 14 #[.slice A3 n3 c3] (by first | rfl | go_simp) _ hread (fun e w' h => by rcases h with ⟨nv, h, -⟩; exact ⟨_, h⟩) ?_
    rintro v wr5 ⟨nv, he, g6, os6⟩
    obtain rfl : v = .tuple #[.agg (V5.cells nv).toArray, .int .i64 E5] := by injection he
    clear he hread
    go_simp
    refine wpList_runTo rfl (some 32) rfl (.tuple #[.agg (V5.cells nv).toArray, .int .i64 E5]) wr5 (by first | rfl | go_simp) ?_
    refine wpList_runTo rfl (some 35) rfl (.agg (V5.cells nv).toArray) wr5 (by go_simp) ?_
    go_simp
    refine wpList_runTo rfl (some 36) rfl (.int .i64 E5) wr5 (by go_simp) ?_
    have hy0 := Row.new wr5 35 zP #[.int .i64 0, .int .i64 0, .int .i64 0, .int .i64 0, .int .i64 0, .int .i64 0, .int .i64 0, .string ⟨#[]⟩, .int .i64 0, .int .i64 0, .int .i64 0, .string ⟨#[]⟩, .string ⟨#[]⟩, .int .i64 0, .int .i64 0, .int .i64 0, .int .i64 0, .string ⟨#[]⟩, .int .i64 0, .int .i64 0, .int .i64 0, .int .i64 0, .string ⟨#[]⟩, .slice none 0 0, .int .i64 0, .int .i64 0, .int .i64 0, .int .i64 0, .int .i64 0, .int .i64 0, .int .i64 0, .int .i64 0, .int .i64 0, .int .i64 0, .int .i64 0, .int .i64 0, .int .i64 0, .int .i64 0, .int .i64 0, .int .i64 0, .int .i64 0, .int .i64 0, .int .i64 0] rfl
    have ga := (Grow.refl wr5).alloc (.cells #[.int .i64 0, .int .i64 0, .int .i64 0, .int .i64 0, .int .i64 0, .int .i64 0, .int .i64 0, .string ⟨#[]⟩, .int .i64 0, .int .i64 0, .int .i64 0, .string ⟨#[]⟩, .string ⟨#[]⟩, .int .i64 0, .int .i64 0, .int .i64 0, .int .i64 0, .string ⟨#[]⟩, .int .i64 0, .int .i64 0, .int .i64 0, .int .i64 0, .string ⟨#[]⟩, .slice none 0 0, .int .i64 0, .int .i64 0, .int .i64 0, .int .i64 0, .int .i64 0, .int .i64 0, .int .i64 0, .int .i64 0, .int .i64 0, .int .i64 0, .int .i64 0, .int .i64 0, .int .i64 0, .int .i64 0, .int .i64 0, .int .i64 0, .int .i64 0, .int .i64 0, .int .i64 0] 35)
    refine wpList_allocTo rfl (some 6) rfl (.pointer (some ⟨wr5.heap.size, 0, none⟩)) (.cells #[.int .i64 0, .int .i64 0, .int .i64 0, .int .i64 0, .int .i64 0, .int .i64 0, .int .i64 0, .string ⟨#[]⟩, .int .i64 0, .int .i64 0, .int .i64 0, .string ⟨#[]⟩, .string ⟨#[]⟩, .int .i64 0, .int .i64 0, .int .i64 0, .int .i64 0, .string ⟨#[]⟩, .int .i64 0, .int .i64 0, .int .i64 0, .int .i64 0, .string ⟨#[]⟩, .slice none 0 0, .int .i64 0, .int .i64 0, .int .i64 0, .int .i64 0, .int .i64 0, .int .i64 0, .int .i64 0, .int .i64 0, .int .i64 0, .int .i64 0, .int .i64 0, .int .i64 0, .int .i64 0, .int .i64 0, .int .i64 0, .int .i64 0, .int .i64 0, .int .i64 0, .int .i64 0] 35) (by kernel_rfl) ?_
    go_simp
    obtain ⟨wa5, hwa⟩ : ∃ z, z = wr5.alloc (.cells #[.int .i64 0, .int .i64 0, .int .i64 0, .int .i64 0, .int .i64 0, .int .i64 0, .int .i64 0, .string ⟨#[]⟩, .int .i64 0, .int .i64 0, .int .i64 0, .string ⟨#[]⟩, .string ⟨#[]⟩, .int .i64 0, .int .i64 0, .int .i64 0, .int .i64 0, .string ⟨#[]⟩, .int .i64 0, .int .i64 0, .int .i64 0, .int .i64 0, .string ⟨#[]⟩, .slice none 0 0, .int .i64 0, .int .i64 0, .int .i64 0, .int .i64 0, .int .i64 0, .int .i64 0, .int .i64 0, .int .i64 0, .int .i64 0, .int .i64 0, .int .i64 0, .int .i64 0, .int .i64 0, .int .i64 0, .int .i64 0, .int .i64 0, .int .i64 0, .int .i64 0, .int .i64 0] 35) := ⟨_, rfl⟩
    obtain ⟨y5, hy⟩ : ∃ z, z = wr5.heap.size := ⟨_, rfl⟩
    rw [← hwa] at hy0 ga ⊢
    rw [← hy] at hy0 ⊢
    refine wpList_storeRow rfl 35 (.tmp 6) (.tmp 35) rfl rfl y5 rfl (V5.cells nv) zP rfl hy0 rfl pk_size (PK.one _ os6.one) ?_
    intro w5 r8 t8 z8
    have G5 : Grow w4 w5 := (g6.trans ga).low (t8.low (B := w4.heap.size) (fun i e => by have := g6.size; have e' : i = y5 := e; omega) (g6.trans ga).size)
    have OS8 : OS w5 w4.heap.size nv V5.names := row_turnW (os6.keep ga) t8 (fun k e q => by have := (World.ownsRow.lt os6 k e).2; have q' : k = y5 := q; omega)
    obtain ⟨AN5, cN5, rfl, hrs⟩ := RS.of_OS OS8
    have HNB5 := Lib.hid (show ∀ z, AN5 = some z → w4.heap.size ≤ z.block ∧ z.block < y5 from fun z hz => by
      subst hz
      rw [hy]
      exact World.ownsRow.lt os6 z.block rfl)
    have HOS5 := Lib.hid OS8
    obtain ⟨k5, hk5⟩ : ∃ z, z = V5.names.length := ⟨_, rfl⟩
    rw [← hk5] at hrs r8
    have HK5 := Lib.hid hk5
    have HY5 := Lib.hid r8
    have HN5 := Lib.hid hrs
    have hyl5 : y5 < w5.heap.size := r8.1.1
    have hyw5 : w4.heap.size ≤ y5 := by rw [hy]; exact g6.size
    replace HXx := Lib.hid (HXx.out.keep G5)
    replace HRP := Lib.hid (HRP.out.grow G5)
    replace HO3 := Lib.hid (HO3.out.keepW G5)
    replace HO4 := Lib.hid (HO4.out.keepW G5)
    clear g6 ga hy0 hy hwa os6 OS8 hrs r8 t8 z8 hk5
    obtain rfl : E5 = 0 := HE5.out.trans HPR.out.1
    have HB5 := Lib.hid (Grow.trans HB4.out G5)
    have hz45 : w4.heap.size ≤ w5.heap.size := G5.size
    have HBW := Lib.hid (show W.heap.size ≤ w2.heap.size from HBW2.out)
    have HKB := Lib.hid (show k5 ≤ 300 by have hv : V5 = P := HV5.out.trans HPR.out.2; rw [HK5.out, hv]; exact HPP.out.names.1)
    have hz34 : w3.heap.size ≤ w4.heap.size := HG4.out.size
    have hz23 : w2.heap.size ≤ w3.heap.size := HZ23.out
    have HAN := Lib.hid (show ∀ k, AtB AN5 k → w4.heap.size ≤ k ∧ k < y5 from fun k ⟨z, hz, hk⟩ => by have := HNB5.out z hz; omega)
    have HAR := Lib.hid (show AnyRow w5 w4.heap.size 9 AN5 k5 cN5 from ⟨sts V5.names, by have := HOS5.out; unfold OS at this; rw [← HK5.out] at this; exact this⟩)
    clear G5 HOS5 HN5 HNB5
    have c23 := HY5.out.1.2 23 _ rfl
    go_wp2_with fail
    go_loopw [8] (fun t wr => FilInv w5 wr w4.heap.size 9 AN5 k5 cN5 t) (fun t _ => k5 - (intOf t).toNat)
    case atStart => exact ⟨0, rfl, Nat.zero_le _, HAR.out, Turn.refl _ _⟩
    case round =>
      obtain ⟨j, rfl, hj, har, ht⟩ := hrel
      have c23r := Turn.cellW ht c23 (fun h => by have := (HAN.out _ h).2; have e' : y5 < y5 := this; omega)
      by_cases hlt : j < k5
      · obtain ⟨gn, rfl, hb1, hb2, ⟨vv, hvv⟩, hfz, hset⟩ := har.at_ hlt
        have HT := Lib.hid (ht.and (Turn.setCell (F := AtB (some ⟨gn, 0, none⟩)) wr (p := ⟨gn, j, none⟩) ⟨_, rfl, rfl⟩ (.string ⟨#[120]⟩)))
        have HSET := Lib.hid (hset (.string ⟨#[120]⟩))
        have z1 : decide (j < k5) = true := decide_eq_true hlt
        have z2 : decide ((j : Int) < (k5 : Int)) = true := decide_eq_true (by omega)
        clear har ht hset c23
        go_wp2_with fail
        go_roundw
        have e5 : wrap64 ((j : Int) + 1) = (j : Int) + 1 := IntWalk.wrap64_in _ (by have := HKB.out; omega)
        case rel => exact ⟨j + 1, by (try rw [e5]); simp, hlt, HSET.out, HT.out⟩
        case measure => (have e5 : wrap64 ((j : Int) + 1) = (j : Int) + 1 := IntWalk.wrap64_in _ (by have := HKB.out; omega)); (try rw [e5]); exact measV hlt
      · obtain rfl : k5 = j := by omega
        have z1 : decide (k5 < k5) = false := decide_eq_false (by omega)
        have z2 : decide ((k5 : Int) < (k5 : Int)) = false := decide_eq_false (by omega)
        have hx4 : x < w4.heap.size := by omega
        replace HO3 := Lib.hid (HO3.out.off ht (fun k hk h => by have := HAa.out k hk; have := HAN.out k h; omega))
        replace HO4 := Lib.hid (HO4.out.off ht (fun k hk h => by have := HAo.out k hk; have := HAN.out k h; omega))
        replace HXx := Lib.hid (HXx.out.turnW ht (fun h => by have := HAN.out _ h; omega))
        replace HRP := Lib.hid (HRP.out.turnW ht (fun hn q hq h => by have := HRl.out hn q hq; have := HAN.out _ h; omega))
        have HB6 := Lib.hid (show Grow W wr from HB5.out.low (ht.low (B := W.heap.size) (fun i h => by have := HAN.out _ h; have := HB4.out.size; omega) HB5.out.size))
        obtain ⟨w6, hw6⟩ : ∃ z, z = wr := ⟨_, rfl⟩
        rw [← hw6] at HO3 HO4 HXx HRP HB6 c23r ⊢
        have hs6 : w5.heap.size ≤ w6.heap.size := by rw [hw6]; exact ht.size
        have hs5 : w4.heap.size ≤ w5.heap.size := hz45
        clear hw6 ht har c23
        go_wp2_with fail
        refine (same_yes HO3.out.sl HO4.out.sl rfl).mono ?_
        rintro e w7 ⟨rfl, q7, hw7⟩
        have g7 : Grow w6 w7 := by rw [hw7]; exact (Grow.refl _).drewN _
        replace HO3 := Lib.hid (HO3.out.keepW g7)
        replace HO4 := Lib.hid (HO4.out.keepW g7)
        replace HXx := Lib.hid (HXx.out.keep g7)
        replace HRP := Lib.hid (HRP.out.grow g7)
        have HB7 := Lib.hid (Grow.trans HB6.out g7)
        have hs7 : w6.heap.size ≤ w7.heap.size := g7.size
        have HAA := Lib.hid (show AnyRow w7 w2.heap.size 5 A3 n3 c3 from AnyRow.of_own HO3.out)
        clear hw7 g7 c23r HO3
        go_wp2_with fail
        go_loopw [10] (fun t wr => FilInv w7 wr w2.heap.size 5 A3 n3 c3 t) (fun t _ => n3 - (intOf t).toNat)
        case atStart => exact ⟨0, rfl, Nat.zero_le _, HAA.out, Turn.refl _ _⟩
        case round =>
          obtain ⟨j, rfl, hj, har, ht⟩ := hrel
          by_cases hlt : j < n3
          · obtain ⟨gn, rfl, hb1, hb2, ⟨vv, hvv⟩, hfz, hset⟩ := har.at_ hlt
            have HT := Lib.hid (ht.and (Turn.setCell (F := AtB (some ⟨gn, 0, none⟩)) wr (p := ⟨gn, j, none⟩) ⟨_, rfl, rfl⟩ (.int .u8 7)))
            have HSET := Lib.hid (hset (.int .u8 7))
            have z1 : decide (j < n3) = true := decide_eq_true hlt
            have z2 : decide ((j : Int) < (n3 : Int)) = true := decide_eq_true (by omega)
            clear har ht hset
            go_wp2_with fail
            go_roundw
            have e5 : wrap64 ((j : Int) + 1) = (j : Int) + 1 := IntWalk.wrap64_in _ (by omega)
            case rel => exact ⟨j + 1, by (try rw [e5]); simp, hlt, HSET.out, HT.out⟩
            case measure => (have e5 : wrap64 ((j : Int) + 1) = (j : Int) + 1 := IntWalk.wrap64_in _ (by omega)); (try rw [e5]); exact measV hlt
          · obtain rfl : n3 = j := by omega
            have z1 : decide (n3 < n3) = false := decide_eq_false (by omega)
            have z2 : decide ((n3 : Int) < (n3 : Int)) = false := decide_eq_false (by omega)
            replace HO4 := Lib.hid (HO4.out.off ht (fun k hk h => by have := HAo.out k hk; have := HAa.out k h; omega))
            replace HXx := Lib.hid (HXx.out.turnW ht (fun h => by have := HAa.out _ h; omega))
            replace HRP := Lib.hid (HRP.out.turnW ht (fun hn q hq h => by have := HRl.out hn q hq; have := HAa.out _ h; omega))
            have HB8 := Lib.hid (show Grow W wr from HB7.out.low (ht.low (B := W.heap.size) (fun i h => by have := HAa.out _ h; have := HBW.out; omega) HB7.out.size))
            obtain ⟨w8, hw8⟩ : ∃ z, z = wr := ⟨_, rfl⟩
            rw [← hw8] at HO4 HXx HRP HB8 ⊢
            clear hw8 ht har
            go_upto_region 17 with (fail)
            have hput := w_putK (c := cP) P HPP.out HKP.out HRP.out
            refine wp_region_list ?_
            refine wpList_loadRow rfl 35 (.tmp 1) rfl (some 63) rfl x rfl (P.cells (.slice AP kP cP)) _ HXx.out.1 Try.underlying35 rfl pk_size ?_
            go_simp
            refine wpList_callC rfl (some 64) rfl 10 #[.agg (P.cells (.slice AP kP cP)).toArray] (by first | rfl | go_simp) _ hput (fun e w' h => by obtain ⟨_, _, _, h, -⟩ := h; exact ⟨_, h⟩) ?_
            rintro v w9 ⟨A9, n9, c9, he, ho, G9⟩
            obtain rfl : v = .tuple #[.slice A9 n9 c9, .int .i64 (putE P)] := by injection he
            have HO9 := Lib.hid (show Own w9 w8.heap.size A9 n9 c9 (putL P) from ho)
            replace HO4 := Lib.hid (HO4.out.keepW G9)
            clear he ho hput
            have HB9 := Lib.hid (Grow.trans HB8.out G9)
            rw [← HPE.out]
            rw [← HBZ.out] at HO9
            clear G9
            go_wp2_with fail
            refine (same_yes HO9.out.sl HO4.out.sl rfl).mono ?_
            rintro e w10 ⟨rfl, q10, hw10⟩
            have HB10 := Lib.hid (Grow.trans HB9.out (show Grow w9 w10 by rw [hw10]; exact (Grow.refl _).drewN _))
            clear hw10
            go_wp2_with fail
            refine (lives7 _).mono ?_
            rintro e w11 ⟨rfl, g11⟩
            have HB11 := Lib.hid (Grow.trans HB10.out g11)
            clear g11
            go_wp2_with fail
            go_ret
            exact ⟨rfl, HB11.out⟩
  · have hbad := putE_bad (p := P) (by rw [← HPE.out]; exact hp0)
    obtain rfl : pe = 1 := by rw [HPE.out]; exact hbad.1
    obtain rfl : n3 = 0 := by rw [← HO3.out.1, hbad.2]; rfl
    clear hbad
    go_wp2_with fail
    refine (lives7 _).mono ?_
    rintro e w8 ⟨rfl, g8⟩
    have HB9 := Lib.hid (Grow.trans HB3.out g8)
    clear g8
    go_wp2_with fail
    go_ret
    exact ⟨rfl, HB9.out⟩
end Go.Proofs.Ytgjcpchlijpjmaa
