/- wire.Put. wire.Put as the card's walks want them. A memory as it lies in the heap: two rows of cells, a set of numbers. What the verbs of a memory do, as plain words over lists. No program here; no statement of the seat is proved here. No statement of the seat is proved here. -/
import Derived.Test.YtdlcpfgogjcciaaZ10
import Derived.Test.YtdlcpfgogjcciaaZ09
import Derived.Deep.RegionHeld3
import Derived.Test.YtdlcpfgogjcciaaZ03
import Derived.Maps.OwnSet
import Derived.Maps.Range
namespace Go.Proofs.Ytdlcpfgogjcciaa
open Go.RowKit Go.Great

/-- What Put answers: bytes, or none. -/
def putP (p : PK) : OBs := (innerP p).bind fun l => if normP p = p then some (sumB l) else none
theorem putP_none {p : PK} (h : innerP p = none) : putP p = none := by unfold putP; rw [h]; rfl
theorem putP_odd {p : PK} (h : ¬ normP p = p) : putP p = none := by
  unfold putP
  cases innerP p with
  | none => rfl
  | some l => show (if normP p = p then some (sumB l) else none) = none; rw [if_neg h]
theorem putP_some {p : PK} {l : List UInt8} (h : innerP p = some l) (hn : normP p = p) : putP p = some (sumB l) := by
  unfold putP; rw [h]; show (if normP p = p then some (sumB l) else none) = some (sumB l); rw [if_pos hn]
theorem PK.ok.wide {p : PK} (h : p.ok) : p.wide := ⟨h.seq.2, h.old.2, h.new.2, h.wrote.2⟩
theorem normP_client (p : PK) : (normP p).client = p.client := by
  unfold normP
  repeat' split
  all_goals rfl
theorem normP_names (p : PK) : (normP p).names = p.names ∨ (normP p).names = [] := by
  unfold normP
  repeat' split
  all_goals first | exact .inl rfl | exact .inr rfl
theorem put_reads {p : PK} {l : List UInt8} (h : innerP p = some l) (hw : p.wide) : rdE (sumB l) = 0 ∧ rdV (sumB l) = normP p := by
  obtain ⟨h1, h2⟩ := parse_put h hw
  have e0 : (sumB l).length - 4 = l.length := by rw [sumB_length]; omega
  have e1 : (sumB l).take ((sumB l).length - 4) = l := by rw [e0]; simpa using sumB_take l []
  have e2 : getN (sumB l) (((sumB l).length - 4 : Nat) : Int) 4 = (crcN l : Nat) := by rw [e0]; exact sumB_get' l
  have hk : okP l = true := by
    unfold okP
    rw [h1, normP_client, h2]
    rfl
  have := rdE_ok (bs := sumB l) (by rw [sumB_length]; omega) (by rw [e1]; exact e2) (by rw [e1]; exact hk)
  rw [e1, h1] at this
  exact this
/-- A kind's body as it is put. -/
def bodyP (p : PK) (o : OBs) : OBs := if p.kind = 1 then bAsk p o else if p.kind = 2 then bTold p o else if p.kind = 3 then bRAsk p o else if p.kind = 4 then bRTold p o else bRecall p o
theorem inner_body {p : PK} (h : kindB p.kind = true) : innerP p = bodyP p (headP p) := by
  unfold innerP bodyP
  have h' : 1 ≤ p.kind ∧ p.kind ≤ 5 := of_decide_eq_true h
  by_cases k1 : p.kind = 1
  · rw [if_pos k1, if_pos k1]
  by_cases k2 : p.kind = 2
  · rw [if_neg k1, if_pos k2, if_neg k1, if_pos k2]
  by_cases k3 : p.kind = 3
  · rw [if_neg k1, if_neg k2, if_pos k3, if_neg k1, if_neg k2, if_pos k3]
  by_cases k4 : p.kind = 4
  · rw [if_neg k1, if_neg k2, if_neg k3, if_pos k4, if_neg k1, if_neg k2, if_neg k3, if_pos k4]
  rw [if_neg k1, if_neg k2, if_neg k3, if_neg k4, if_pos (by omega), if_neg k1, if_neg k2, if_neg k3, if_neg k4]
/-- The method that writes a kind's body. -/
def wtM (k : Int) : FuncId := if k = 1 then 47 else if k = 2 then 48 else if k = 3 then 49 else if k = 4 then 50 else 46
theorem wtM_enter (k : Int) : EntersF (wtM k) := by
  unfold wtM
  repeat' split
  · exact entersF Try.func47 (by kernel_rfl) rfl
  · exact entersF Try.func48 (by kernel_rfl) rfl
  · exact entersF Try.func49 (by kernel_rfl) rfl
  · exact entersF Try.func50 (by kernel_rfl) rfl
  · exact entersF Try.func46 (by kernel_rfl) rfl
theorem RS.ne {w : World} {A : Option Addr} {n g : Nat} {l : List ByteArray} (h : RS w A n l) (hg : w.heap.size ≤ g) : 0 < n → ∀ q, A = some q → q.block ≠ g := by
  intro hn q hq e
  obtain ⟨b, o, h1, h2, -⟩ := h.2.2 hn
  rw [h1] at hq
  injection hq with hq
  subst hq
  have e' : b = g := e
  omega
theorem RS.turnW {w w' : World} {F : Nat → Prop} {A : Option Addr} {n : Nat} {l : List ByteArray} (h : RS w A n l) (t : Turn F w w') (hF : 0 < n → ∀ q, A = some q → ¬ F q.block) : RS w' A n l := ⟨h.1, Rd.turnW h.2 t hF t.size⟩
theorem RS.of_OS {w : World} {base : Nat} {nv : Value} {l : List ByteArray} (h : OS w base nv l) : ∃ A c, nv = .slice A l.length c ∧ RS w A l.length l := by
  obtain ⟨A, c, rfl, h2, h3, h4, h5⟩ := own_form h
  exact ⟨A, c, rfl, rfl, Rd.of_own h⟩
theorem w_puts {w : World} {g N : Nat} {bv : Value} {o : OBs} (h : WS w g bv o N) (p : PK) (A : Option Addr) (c : Nat) (hr : RS w A p.names.length p.names) (hA : 0 < p.names.length → ∀ q, A = some q → q.block ≠ g) (hp : p.ok) (hN : N ≤ 10000) :
    Calls Try.prog (wtM p.kind) #[.pointer (some ⟨g, 0, none⟩), .agg (p.cells (.slice A p.names.length c)).toArray] w fun e w' => e = .returned (.tuple #[]) ∧ WDone w w' g (bodyP p o) (N + 2000000000000) := by
  have mn : ∀ {M : Nat} {o' : OBs} {w' : World}, M ≤ N + 2000000000000 → WDone w w' g o' M → WDone w w' g o' (N + 2000000000000) := fun hM ⟨b, h1, h2⟩ => ⟨b, h1.mono hM, h2⟩
  have e1 := hp.data
  have e2 := hp.path
  have e3 := hp.path2
  by_cases k1 : p.kind = 1
  · rw [show bodyP p o = bAsk p o by unfold bodyP; rw [if_pos k1], show wtM p.kind = 47 by unfold wtM; rw [if_pos k1]]
    exact (ww_verbAsk h p (.slice A p.names.length c) hp hN).mono fun e w' h => ⟨h.1, mn (by omega) h.2⟩
  by_cases k2 : p.kind = 2
  · rw [show bodyP p o = bTold p o by unfold bodyP; rw [if_neg k1, if_pos k2], show wtM p.kind = 48 by unfold wtM; rw [if_neg k1, if_pos k2]]
    exact (ww_verbTold h p (.slice A p.names.length c) hp hN).mono fun e w' h => ⟨h.1, mn (by omega) h.2⟩
  by_cases k3 : p.kind = 3
  · rw [show bodyP p o = bRAsk p o by unfold bodyP; rw [if_neg k1, if_neg k2, if_pos k3], show wtM p.kind = 49 by unfold wtM; rw [if_neg k1, if_neg k2, if_pos k3]]
    exact (ww_rpcAsk h p (.slice A p.names.length c) hp hN).mono fun e w' h => ⟨h.1, mn (by omega) h.2⟩
  by_cases k4 : p.kind = 4
  · rw [show bodyP p o = bRTold p o by unfold bodyP; rw [if_neg k1, if_neg k2, if_neg k3, if_pos k4], show wtM p.kind = 50 by unfold wtM; rw [if_neg k1, if_neg k2, if_neg k3, if_pos k4]]
    exact ww_rpcTold h p A c hr hA hp hN
  rw [show bodyP p o = bRecall p o by unfold bodyP; rw [if_neg k1, if_neg k2, if_neg k3, if_neg k4], show wtM p.kind = 46 by unfold wtM; rw [if_neg k1, if_neg k2, if_neg k3, if_neg k4]]
  exact (ww_recall h p (.slice A p.names.length c) hp hN).mono fun e w' h => ⟨h.1, mn (by omega) h.2⟩

theorem w_sameC {w : World} (p q : PK) {A A' : Option Addr} {c c' : Nat} (hp : RS w A p.names.length p.names) (hq : RS w A' q.names.length q.names) (hp3 : p.names.length ≤ 1048576) (hq3 : q.names.length ≤ 1048576) :
    Calls Try.prog 54 #[.agg (p.cells (.slice A p.names.length c)).toArray, .agg (q.cells (.slice A' q.names.length c')).toArray] w fun e w' => e = .returned (.bool (decide (p = q))) ∧ Grow w w' := by
  rw [show (p.cells (.slice A p.names.length c)).toArray = #[.int .i64 p.kind, .int .i64 p.client, .int .i64 p.epoch, .int .i64 p.seq, .int .i64 p.op, .int .i64 p.at_, .int .i64 p.n, .string p.data, .int .i64 p.old, .int .i64 p.new, .int .i64 p.ckind, .string p.path, .string p.path2, .int .i64 p.flags, .int .i64 p.cfd, .int .i64 p.coff, .int .i64 p.cn, .string p.cdata, .int .i64 p.ino, .int .i64 p.errno, .int .i64 p.rerrno, .int .i64 p.rfd, .string p.rdata, .slice A p.names.length c, .int .i64 p.ikind, .int .i64 p.ilinks, .int .i64 p.isize, .int .i64 p.wrote, .int .i64 p.nkind, .int .i64 p.nlinks, .int .i64 p.nsize, .int .i64 p.b0, .int .i64 p.b1, .int .i64 p.b2, .int .i64 p.b3, .int .i64 p.o0, .int .i64 p.o1, .int .i64 p.o2, .int .i64 p.o3, .int .i64 p.o4, .int .i64 p.o5, .int .i64 p.o6, .int .i64 p.o7] from rfl, show (q.cells (.slice A' q.names.length c')).toArray = #[.int .i64 q.kind, .int .i64 q.client, .int .i64 q.epoch, .int .i64 q.seq, .int .i64 q.op, .int .i64 q.at_, .int .i64 q.n, .string q.data, .int .i64 q.old, .int .i64 q.new, .int .i64 q.ckind, .string q.path, .string q.path2, .int .i64 q.flags, .int .i64 q.cfd, .int .i64 q.coff, .int .i64 q.cn, .string q.cdata, .int .i64 q.ino, .int .i64 q.errno, .int .i64 q.rerrno, .int .i64 q.rfd, .string q.rdata, .slice A' q.names.length c', .int .i64 q.ikind, .int .i64 q.ilinks, .int .i64 q.isize, .int .i64 q.wrote, .int .i64 q.nkind, .int .i64 q.nlinks, .int .i64 q.nsize, .int .i64 q.b0, .int .i64 q.b1, .int .i64 q.b2, .int .i64 q.b3, .int .i64 q.o0, .int .i64 q.o1, .int .i64 q.o2, .int .i64 q.o3, .int .i64 q.o4, .int .i64 q.o5, .int .i64 q.o6, .int .i64 q.o7] from rfl]
  exact w_same p q hp hq hp3 hq3
/-- What Put answers, and what is there then. -/
def PutAns (w w' : World) (e : Ending) (o : OBs) : Prop := match o with
  | some b => ∃ A n c, e = .returned (.tuple #[.slice A n c, .int .i64 0]) ∧ Own w' w.heap.size A n c b
  | none => e = .returned (.tuple #[.slice none 0 0, .int .i64 1])

set_option maxHeartbeats 16000000 in
set_option maxRecDepth 8000 in
theorem w_put {w : World} {A : Option Addr} {c : Nat} (p : PK) (hp : p.ok) (hr : RS w A p.names.length p.names) :
    Calls Try.prog 21 #[.agg (p.cells (.slice A p.names.length c)).toArray] w fun e w' => PutAns w w' e (putP p) ∧ Grow w w' := by
  obtain ⟨m, hm⟩ : ∃ m, m = p.names.length := ⟨_, rfl⟩
  have HP := Lib.hid hp
  have HM := Lib.hid hm
  have HR0 := Lib.hid hr
  rw [← hm] at HR0 ⊢
  clear hm hp hr
  rw [show (p.cells (.slice A m c)).toArray = #[.int .i64 p.kind, .int .i64 p.client, .int .i64 p.epoch, .int .i64 p.seq, .int .i64 p.op, .int .i64 p.at_, .int .i64 p.n, .string p.data, .int .i64 p.old, .int .i64 p.new, .int .i64 p.ckind, .string p.path, .string p.path2, .int .i64 p.flags, .int .i64 p.cfd, .int .i64 p.coff, .int .i64 p.cn, .string p.cdata, .int .i64 p.ino, .int .i64 p.errno, .int .i64 p.rerrno, .int .i64 p.rfd, .string p.rdata, .slice A m c, .int .i64 p.ikind, .int .i64 p.ilinks, .int .i64 p.isize, .int .i64 p.wrote, .int .i64 p.nkind, .int .i64 p.nlinks, .int .i64 p.nsize, .int .i64 p.b0, .int .i64 p.b1, .int .i64 p.b2, .int .i64 p.b3, .int .i64 p.o0, .int .i64 p.o1, .int .i64 p.o2, .int .i64 p.o3, .int .i64 p.o4, .int .i64 p.o5, .int .i64 p.o6, .int .i64 p.o7] from rfl]
  go_enter Try.func21, Try.ntmps21
  go_upto_region 1 with (fail)
  have hb := Blk.new w 36 (p.cells (.slice A m c)) #[.int .i64 p.kind, .int .i64 p.client, .int .i64 p.epoch, .int .i64 p.seq, .int .i64 p.op, .int .i64 p.at_, .int .i64 p.n, .string p.data, .int .i64 p.old, .int .i64 p.new, .int .i64 p.ckind, .string p.path, .string p.path2, .int .i64 p.flags, .int .i64 p.cfd, .int .i64 p.coff, .int .i64 p.cn, .string p.cdata, .int .i64 p.ino, .int .i64 p.errno, .int .i64 p.rerrno, .int .i64 p.rfd, .string p.rdata, .slice A m c, .int .i64 p.ikind, .int .i64 p.ilinks, .int .i64 p.isize, .int .i64 p.wrote, .int .i64 p.nkind, .int .i64 p.nlinks, .int .i64 p.nsize, .int .i64 p.b0, .int .i64 p.b1, .int .i64 p.b2, .int .i64 p.b3, .int .i64 p.o0, .int .i64 p.o1, .int .i64 p.o2, .int .i64 p.o3, .int .i64 p.o4, .int .i64 p.o5, .int .i64 p.o6, .int .i64 p.o7] (0, 0) rfl
  have ga := (Grow.refl w).alloc (.cells #[.int .i64 p.kind, .int .i64 p.client, .int .i64 p.epoch, .int .i64 p.seq, .int .i64 p.op, .int .i64 p.at_, .int .i64 p.n, .string p.data, .int .i64 p.old, .int .i64 p.new, .int .i64 p.ckind, .string p.path, .string p.path2, .int .i64 p.flags, .int .i64 p.cfd, .int .i64 p.coff, .int .i64 p.cn, .string p.cdata, .int .i64 p.ino, .int .i64 p.errno, .int .i64 p.rerrno, .int .i64 p.rfd, .string p.rdata, .slice A m c, .int .i64 p.ikind, .int .i64 p.ilinks, .int .i64 p.isize, .int .i64 p.wrote, .int .i64 p.nkind, .int .i64 p.nlinks, .int .i64 p.nsize, .int .i64 p.b0, .int .i64 p.b1, .int .i64 p.b2, .int .i64 p.b3, .int .i64 p.o0, .int .i64 p.o1, .int .i64 p.o2, .int .i64 p.o3, .int .i64 p.o4, .int .i64 p.o5, .int .i64 p.o6, .int .i64 p.o7] 36)
  obtain ⟨w1, hw1⟩ : ∃ z, z = w.alloc (.cells #[.int .i64 p.kind, .int .i64 p.client, .int .i64 p.epoch, .int .i64 p.seq, .int .i64 p.op, .int .i64 p.at_, .int .i64 p.n, .string p.data, .int .i64 p.old, .int .i64 p.new, .int .i64 p.ckind, .string p.path, .string p.path2, .int .i64 p.flags, .int .i64 p.cfd, .int .i64 p.coff, .int .i64 p.cn, .string p.cdata, .int .i64 p.ino, .int .i64 p.errno, .int .i64 p.rerrno, .int .i64 p.rfd, .string p.rdata, .slice A m c, .int .i64 p.ikind, .int .i64 p.ilinks, .int .i64 p.isize, .int .i64 p.wrote, .int .i64 p.nkind, .int .i64 p.nlinks, .int .i64 p.nsize, .int .i64 p.b0, .int .i64 p.b1, .int .i64 p.b2, .int .i64 p.b3, .int .i64 p.o0, .int .i64 p.o1, .int .i64 p.o2, .int .i64 p.o3, .int .i64 p.o4, .int .i64 p.o5, .int .i64 p.o6, .int .i64 p.o7] 36) := ⟨_, rfl⟩
  obtain ⟨x, hx⟩ : ∃ z, z = w.heap.size := ⟨_, rfl⟩
  rw [← hw1] at hb ga ⊢
  rw [← hx] at hb ⊢
  obtain ⟨P0, hP0⟩ : ∃ z, z = Value.agg #[.int .i64 p.kind, .int .i64 p.client, .int .i64 p.epoch, .int .i64 p.seq, .int .i64 p.op, .int .i64 p.at_, .int .i64 p.n, .string p.data, .int .i64 p.old, .int .i64 p.new, .int .i64 p.ckind, .string p.path, .string p.path2, .int .i64 p.flags, .int .i64 p.cfd, .int .i64 p.coff, .int .i64 p.cn, .string p.cdata, .int .i64 p.ino, .int .i64 p.errno, .int .i64 p.rerrno, .int .i64 p.rfd, .string p.rdata, .slice A m c, .int .i64 p.ikind, .int .i64 p.ilinks, .int .i64 p.isize, .int .i64 p.wrote, .int .i64 p.nkind, .int .i64 p.nlinks, .int .i64 p.nsize, .int .i64 p.b0, .int .i64 p.b1, .int .i64 p.b2, .int .i64 p.b3, .int .i64 p.o0, .int .i64 p.o1, .int .i64 p.o2, .int .i64 p.o3, .int .i64 p.o4, .int .i64 p.o5, .int .i64 p.o6, .int .i64 p.o7] := ⟨_, rfl⟩
  rw [← hP0]
  have BX1 := Lib.hid hb
  have HG1 := Lib.hid ga
  have HX := Lib.hid hx
  have hlx1 := hb.1
  clear hw1 hb ga hx hP0
  go_upto_region 2 with (fail)
  have hrow := Row.new w1 104 [.slice none 0 0, .bool false] _ rfl
  have ga := (Grow.refl w1).alloc (.cells #[.slice none 0 0, .bool false] 104)
  obtain ⟨w2, hw2⟩ : ∃ z, z = w1.alloc (.cells #[.slice none 0 0, .bool false] 104) := ⟨_, rfl⟩
  obtain ⟨g, hg⟩ : ∃ z, z = w1.heap.size := ⟨_, rfl⟩
  rw [← hw2] at hrow ga ⊢
  rw [← hg] at hrow ⊢
  have hxg : ¬ x = g := by omega
  have HW2 := Lib.hid (show WS w2 g (.slice none 0 0) (some []) 0 from ⟨hrow, none, 0, 0, [], rfl, Sl.nil, fun h => by omega, by omega, by omega, fun l hl => by injection hl with hl; exact hl.symm⟩)
  have BX2 := Lib.hid (BX1.out.keep ga)
  have HG2 := Lib.hid (HG1.out.trans ga)
  have HT2 := Lib.hid (Turn.grow ga (fun k => k = g))
  have hl2 : g < w2.heap.size := hrow.1.1
  have hBg : w.heap.size ≤ g := by have := HG1.out.size; omega
  clear hw2 hrow ga hg BX1
  go_cut [4] (fun v wx => v = .pointer (some ⟨g, 0, none⟩) ∧ ∃ bv', WS wx g bv' (gd (cliB p.client) (some [])) 0 ∧ Turn (fun k => k = g) w2 wx)
  case first =>
    have c1 := BX2.out.2 1 _ rfl
    obtain ⟨d0, d1⟩ := HW2.out.blk.1.c2
    have hf1 := HW2.out.blk.2 1 (by simp)
    by_cases hc1 : p.client < 1
    · have HY := Lib.hid (HW2.out.flag (cliB p.client) true (by rw [gd_isNone, show cliB p.client = false by unfold cliB; rw [decide_eq_false]; omega]; rfl))
      have z3 : decide (p.client < 1) = true := decide_eq_true hc1
      go_wp2_with fail
      go_meet
      exact ⟨rfl, _, HY.out.2.1, HY.out.2.2⟩
    have z3 : decide (p.client < 1) = false := decide_eq_false hc1
    by_cases hc8 : 8 < p.client
    · have HY := Lib.hid (HW2.out.flag (cliB p.client) true (by rw [gd_isNone, show cliB p.client = false by unfold cliB; rw [decide_eq_false]; omega]; rfl))
      have z4 : decide (8 < p.client) = true := decide_eq_true hc8
      go_wp2_with fail
      go_meet
      exact ⟨rfl, _, HY.out.2.1, HY.out.2.2⟩
    have z4 : decide (8 < p.client) = false := decide_eq_false hc8
    have HY := Lib.hid (HW2.out.flag (cliB p.client) false (by rw [gd_isNone, show cliB p.client = true by unfold cliB; rw [decide_eq_true]; omega]; rfl))
    go_wp2_with fail
    go_meet
    exact ⟨rfl, _, HY.out.2.1, HY.out.2.2⟩
  case rest =>
    obtain ⟨rfl, bv3, h3, t3⟩ := hcut
    obtain ⟨w3, hw3⟩ : ∃ z, z = wc := ⟨_, rfl⟩
    rw [← hw3] at h3 t3 ⊢
    clear hw3
    have HW0 := Lib.hid h3
    have HT0 := Lib.hid t3
    have BX0 := Lib.hid (BX2.out.turnW t3 hxg)
    have hl1 := Nat.lt_of_lt_of_le hl2 t3.size
    have hlx := BX0.out.1
    clear h3 t3 BX2 HW2 hl2 hlx1
    have c0 := BX0.out.2 0 _ rfl
    have c1 := BX0.out.2 1 _ rfl
    go_wp2_with fail
    refine (ww_nums HW0.out [p.kind, p.client] (cons_mem HP.out.kind (one_mem HP.out.client)) 1 1 rfl (by simp) 2 rfl _ rfl).mono ?_
    rintro e v1 ⟨rfl, bv1, h2, t2⟩
    have HW1 := Lib.hid (show WS v1 g bv1 (pN (pN (gd (cliB p.client) (some [])) p.kind 1) p.client 1) (0 + 8 * 2) from h2)
    have HT1 := Lib.hid (HT0.out.and t2)
    have BX1 := Lib.hid (BX0.out.turnW t2 hxg)
    replace hl1 := Nat.lt_of_lt_of_le hl1 t2.size
    replace hlx := Nat.lt_of_lt_of_le hlx t2.size
    clear h2 t2 c0 c1 BX0 HW0 HT0
    have c2 := BX1.out.2 2 _ rfl
    go_wp2_with fail
    refine (ww_nums HW1.out [p.epoch] (one_mem HP.out.epoch) 4 4 rfl (by simp) 1 rfl _ rfl).mono ?_
    rintro e v2 ⟨rfl, bv2, h2, t2⟩
    have HW2 := Lib.hid (show WS v2 g bv2 (pN (pN (pN (gd (cliB p.client) (some [])) p.kind 1) p.client 1) p.epoch 4) ((0 + 8 * 2) + 8 * 1) from h2)
    have HT2 := Lib.hid (HT1.out.and t2)
    have BX2 := Lib.hid (BX1.out.turnW t2 hxg)
    replace hl1 := Nat.lt_of_lt_of_le hl1 t2.size
    replace hlx := Nat.lt_of_lt_of_le hlx t2.size
    clear h2 t2 c2 BX1 HW1 HT1
    have c3 := BX2.out.2 3 _ rfl
    go_wp2_with fail
    refine (ww_nums HW2.out [p.seq] (one_mem HP.out.seq) 8 8 rfl (by simp) 1 rfl _ rfl).mono ?_
    rintro e v3 ⟨rfl, bv3, h2, t2⟩
    have HW3 := Lib.hid (show WS v3 g bv3 (pN (pN (pN (pN (gd (cliB p.client) (some [])) p.kind 1) p.client 1) p.epoch 4) p.seq 8) (((0 + 8 * 2) + 8 * 1) + 8 * 1) from h2)
    have HT3 := Lib.hid (HT2.out.and t2)
    have BX3 := Lib.hid (BX2.out.turnW t2 hxg)
    replace hl1 := Nat.lt_of_lt_of_le hl1 t2.size
    replace hlx := Nat.lt_of_lt_of_le hlx t2.size
    clear h2 t2 c3 BX2 HW2 HT2
    replace HW3 := Lib.hid (show WS v3 g bv3 (headP p) 32 from HW3.out)
    go_upto_region 7 with (fail)
    have c0 := BX3.out.2 0 _ rfl
    obtain ⟨ki, hki⟩ : ∃ z, z = p.kind := ⟨_, rfl⟩
    rw [← hki] at c0
    have HKI := Lib.hid hki
    clear hki
    by_cases hkb : kindB ki = true
    · go_upto_block 0 with (fail)
      go_cut [5] (fun v wx => v = .func (.func (wtM ki)) #[.pointer (some ⟨g, 0, none⟩)] #[] ∧ v3 = wx)
      case first =>
        have hki : 1 ≤ ki ∧ ki ≤ 5 := of_decide_eq_true hkb
        clear hkb
        by_cases k1 : ki = 1
        · subst k1
          go_wp2_with fail
          go_meet
          exact ⟨rfl, rfl⟩
        by_cases k2 : ki = 2
        · subst k2
          go_wp2_with fail
          go_meet
          exact ⟨rfl, rfl⟩
        by_cases k3 : ki = 3
        · subst k3
          go_wp2_with fail
          go_meet
          exact ⟨rfl, rfl⟩
        by_cases k4 : ki = 4
        · subst k4
          go_wp2_with fail
          go_meet
          exact ⟨rfl, rfl⟩
        obtain rfl : ki = 5 := by omega
        go_wp2_with fail
        go_meet
        exact ⟨rfl, rfl⟩
      case rest =>
        obtain ⟨rfl, rfl⟩ := hcut
        rw [HKI.out] at hkb ⊢
        have HIN := Lib.hid (inner_body hkb)
        have HR3 := Lib.hid (show RS v3 A m p.names from by have := (HR0.out.grow HG2.out).turnW HT3.out (fun hn q hq => by have := HR0.out.ne hBg hn q hq; exact this); exact this)
        have HNE := Lib.hid (HR0.out.ne hBg)
        have hK : ∀ args w, (callFunc (wtM p.kind) args).run Try.prog w = .ok (.enter (wtM p.kind) args) w := wtM_enter p.kind
        clear hkb c0
        go_upto_region 18 with (fail)
        have hcall := w_puts HW3.out p A c (by rw [← HM.out]; exact HR3.out) (by rw [← HM.out]; exact HNE.out) HP.out (by omega)
        rw [← HM.out] at hcall
        refine wp_region_list ?_
        refine wpList_runTo rfl (some 61) rfl (.func (.func (wtM p.kind)) #[.pointer (some ⟨g, 0, none⟩)] #[]) v3 (by first | rfl | go_simp) ?_
        refine wpList_loadRow rfl 36 (.tmp 1) rfl (some 62) rfl x (by go_simp) (p.cells (.slice A m c)) _ BX3.out Try.underlying36 rfl pk_size ?_
        refine wpList_callC rfl (some 63) rfl (wtM p.kind) #[.pointer (some ⟨g, 0, none⟩), .agg (p.cells (.slice A m c)).toArray] (by go_simp) _ hcall (fun e w' h => ⟨_, h.1⟩) ?_
        rintro v v4 ⟨he, bv4, h4, t4⟩
        obtain rfl : v = .tuple #[] := by injection he
        rw [← HIN.out] at h4
        have HW4 := Lib.hid h4
        have HT4 := Lib.hid (HT3.out.and t4)
        have BX4 := Lib.hid (BX3.out.turnW t4 hxg)
        have HR4 := Lib.hid (HR3.out.turnW t4 (fun hn q hq => HNE.out hn q hq))
        replace hl1 := Nat.lt_of_lt_of_le hl1 t4.size
        replace hlx := Nat.lt_of_lt_of_le hlx t4.size
        clear hcall he h4 t4 HW3 HT3 BX3 HR3 hK
        obtain ⟨d0, d1⟩ := HW4.out.blk.1.c2
        have hf1 := HW4.out.blk.2 1 (by simp)
        cases hin : innerP p with
        | none =>
          have HN := Lib.hid (putP_none hin)
          rw [hin] at d1
          have d1' : v4.cell? ⟨g, 1, none⟩ = some (.bool true) := d1
          clear d1 hin
          go_wp2_with fail
          go_ret2
          rw [HN.out]
          exact ⟨rfl, HG2.out.low (HT4.out.low (B := w.heap.size) (fun i e => by have e' : i = g := e; omega) HG2.out.size)⟩
        | some l =>
          rw [hin] at d1 HW4
          have d1' : v4.cell? ⟨g, 1, none⟩ = some (.bool false) := d1
          have HI := Lib.hid hin
          clear d1 hin
          obtain ⟨A4, n4, c4, bs4, rfl, hs4, hne4, hn4, hc4, hl4⟩ := HW4.out.row
          obtain rfl := hl4 l rfl
          have HS4 := Lib.hid hs4
          go_upto_region 21 with (fail)
          go_cut [6] (fun v wx => ∃ A5 c5, v = .slice A5 (n4 + 4) c5 ∧ Own wx w.heap.size A5 (n4 + 4) c5 (sumB l) ∧ Grow v4 wx)
          case first =>
            have HWV := Lib.hid (show w.heap.size ≤ v4.heap.size by have := HT4.out.size; have := HG2.out.size; omega)
            have HN4 := Lib.hid hn4
            clear hn4 hs4 hne4 hc4 hl4 d1' hf1
            go_region_held3 (fun w' => w'.cell? ⟨g, 0, none⟩ = some (.slice A4 n4 c4)) (first | exact d0 | exact e0 | exact f0) (first
              | (go_at_call 52; refine (sum_s (HS4.out.keep ?_)).mono ?_; (repeat (first | exact Grow.refl _ | refine Grow.drew ?_ | refine Grow.drewN ?_ _)); rintro e w5 ⟨q, rfl, hq, hq4, g5⟩; have G5 : Grow v4 w5 := Grow.trans (by (repeat (first | exact Grow.refl _ | refine Grow.drew ?_ | refine Grow.drewN ?_ _))) g5; have e0 := G5.cell d0; have HS5 := Lib.hid (HS4.out.keep G5); have HG5 := Lib.hid G5; have HF := Lib.hid (show fitsB (q : Int) 4 = true by rw [hq.out]; exact fits_crc _); have HQ9 := Lib.hid (show (q : Int) ≤ 9223372036854775807 by omega); have e5 : wrap64 (q : Int) = q := IntWalk.wrap64_in _ (by omega); have e6 : IntKind.i64.wrap (q : Int) = q := IntWalk.i64_in _ (by clear e5; omega); clear g5 G5)
              | (go_at_call 51; refine (put_s (n4 + 4) (HS5.out.keep ?_) HF.out HQ9.out rfl (by have := HN4.out; omega)).mono ?_; (repeat (first | exact Grow.refl _ | refine Grow.drew ?_ | refine Grow.drewN ?_ _)); rintro e w6 ⟨A5, c5, rfl, hown, g6⟩; have G6 : Grow v4 w6 := HG5.out.trans (Grow.trans (by (repeat (first | exact Grow.refl _ | refine Grow.drew ?_ | refine Grow.drewN ?_ _))) g6); have HO6 := Lib.hid hown; have HG6 := Lib.hid G6; have f0 := G6.cell d0; clear hown g6 G6))
            all_goals
              go_wp2_with fail
              go_meet
              refine ⟨_, _, rfl, ?_, HG6.out⟩
              have h := HO6.out
              rw [hq.out] at h
              exact h.low (by have := HG5.out.size; have := HWV.out; first | omega | (simp only [World.drewN_heap, World.drew]; omega))
          case rest =>
            obtain ⟨A5, c5, rfl, hown, g5⟩ := hcut
            have HRD := Lib.hid (put_reads HI.out HP.out.wide)
            have HO5 := Lib.hid hown
            have HG5 := Lib.hid ((HG2.out.low (HT4.out.low (B := w.heap.size) (fun i e => by have e' : i = g := e; omega) HG2.out.size) : Grow w v4).trans g5)
            have BX5 := Lib.hid (BX4.out.keep g5)
            have HR5 := Lib.hid (HR4.out.grow g5)
            have hlxc : x < wc.heap.size := Nat.lt_of_lt_of_le hlx g5.size
            have hread := w_read HO5.out.sl HO5.out.cap (by omega) (fun h0 p hp => by obtain ⟨k, e, h1, h2⟩ := HO5.out.row h0; rw [e] at hp; injection hp with hp; subst hp; exact h2)
            rw [HRD.out.1, HRD.out.2] at hread
            have HZN := Lib.hid (normP_names p)
            obtain ⟨Z, hZ⟩ : ∃ z, z = normP p := ⟨_, rfl⟩
            rw [← hZ] at hread HZN
            have HZ := Lib.hid hZ
            clear hZ
            clear hown g5 BX4 HR4 d0 hf1 hs4 hne4 hc4 hl4 HT4 HS4
            go_upto_region 22 with (fail)
            refine wp_region_list ?_
            refine wpList_runTo rfl (some 80) rfl (.slice A5 (n4 + 4) c5) wc (by first | rfl | go_simp) ?_
            refine wpList_callC rfl (some 81) rfl 53 #[.slice A5 (n4 + 4) c5] (by first | rfl | go_simp) _ hread (fun e w' h => by obtain ⟨nv, h, -⟩ := h; exact ⟨_, h⟩) ?_
            rintro v w6 ⟨nv, he, g6, os6⟩
            obtain rfl : v = .tuple #[.agg (Z.cells nv).toArray, .int .i64 0] := by injection he
            clear he hread
            refine wpList_runTo rfl (some 79) rfl (.tuple #[.agg (Z.cells nv).toArray, .int .i64 0]) w6 (by first | rfl | go_simp) ?_
            refine wpList_runTo rfl (some 82) rfl (.agg (Z.cells nv).toArray) w6 (by go_simp) ?_
            refine wpList_runTo rfl (some 83) rfl (.int .i64 0) w6 (by go_simp) ?_
            have hy0 := Row.new w6 36 zP #[.int .i64 0, .int .i64 0, .int .i64 0, .int .i64 0, .int .i64 0, .int .i64 0, .int .i64 0, .string ⟨#[]⟩, .int .i64 0, .int .i64 0, .int .i64 0, .string ⟨#[]⟩, .string ⟨#[]⟩, .int .i64 0, .int .i64 0, .int .i64 0, .int .i64 0, .string ⟨#[]⟩, .int .i64 0, .int .i64 0, .int .i64 0, .int .i64 0, .string ⟨#[]⟩, .slice none 0 0, .int .i64 0, .int .i64 0, .int .i64 0, .int .i64 0, .int .i64 0, .int .i64 0, .int .i64 0, .int .i64 0, .int .i64 0, .int .i64 0, .int .i64 0, .int .i64 0, .int .i64 0, .int .i64 0, .int .i64 0, .int .i64 0, .int .i64 0, .int .i64 0, .int .i64 0] rfl
            have ga := (Grow.refl w6).alloc (.cells #[.int .i64 0, .int .i64 0, .int .i64 0, .int .i64 0, .int .i64 0, .int .i64 0, .int .i64 0, .string ⟨#[]⟩, .int .i64 0, .int .i64 0, .int .i64 0, .string ⟨#[]⟩, .string ⟨#[]⟩, .int .i64 0, .int .i64 0, .int .i64 0, .int .i64 0, .string ⟨#[]⟩, .int .i64 0, .int .i64 0, .int .i64 0, .int .i64 0, .string ⟨#[]⟩, .slice none 0 0, .int .i64 0, .int .i64 0, .int .i64 0, .int .i64 0, .int .i64 0, .int .i64 0, .int .i64 0, .int .i64 0, .int .i64 0, .int .i64 0, .int .i64 0, .int .i64 0, .int .i64 0, .int .i64 0, .int .i64 0, .int .i64 0, .int .i64 0, .int .i64 0, .int .i64 0] 36)
            refine wpList_allocTo rfl (some 7) rfl (.pointer (some ⟨w6.heap.size, 0, none⟩)) (.cells #[.int .i64 0, .int .i64 0, .int .i64 0, .int .i64 0, .int .i64 0, .int .i64 0, .int .i64 0, .string ⟨#[]⟩, .int .i64 0, .int .i64 0, .int .i64 0, .string ⟨#[]⟩, .string ⟨#[]⟩, .int .i64 0, .int .i64 0, .int .i64 0, .int .i64 0, .string ⟨#[]⟩, .int .i64 0, .int .i64 0, .int .i64 0, .int .i64 0, .string ⟨#[]⟩, .slice none 0 0, .int .i64 0, .int .i64 0, .int .i64 0, .int .i64 0, .int .i64 0, .int .i64 0, .int .i64 0, .int .i64 0, .int .i64 0, .int .i64 0, .int .i64 0, .int .i64 0, .int .i64 0, .int .i64 0, .int .i64 0, .int .i64 0, .int .i64 0, .int .i64 0, .int .i64 0] 36) (by kernel_rfl) ?_
            obtain ⟨w7, hw7⟩ : ∃ z, z = w6.alloc (.cells #[.int .i64 0, .int .i64 0, .int .i64 0, .int .i64 0, .int .i64 0, .int .i64 0, .int .i64 0, .string ⟨#[]⟩, .int .i64 0, .int .i64 0, .int .i64 0, .string ⟨#[]⟩, .string ⟨#[]⟩, .int .i64 0, .int .i64 0, .int .i64 0, .int .i64 0, .string ⟨#[]⟩, .int .i64 0, .int .i64 0, .int .i64 0, .int .i64 0, .string ⟨#[]⟩, .slice none 0 0, .int .i64 0, .int .i64 0, .int .i64 0, .int .i64 0, .int .i64 0, .int .i64 0, .int .i64 0, .int .i64 0, .int .i64 0, .int .i64 0, .int .i64 0, .int .i64 0, .int .i64 0, .int .i64 0, .int .i64 0, .int .i64 0, .int .i64 0, .int .i64 0, .int .i64 0] 36) := ⟨_, rfl⟩
            obtain ⟨y, hy⟩ : ∃ z, z = w6.heap.size := ⟨_, rfl⟩
            rw [← hw7] at hy0 ga ⊢
            rw [← hy] at hy0 ⊢
            refine wpList_storeRow rfl 36 (.tmp 7) (.tmp 82) rfl rfl y (by go_simp) (Z.cells nv) zP (by go_simp) hy0 rfl pk_size (PK.one _ os6.one) ?_
            intro w8 r8 t8 z8
            have G7 := g6.trans ga
            have hy6 : wc.heap.size ≤ y := by have := g6.size; omega
            have HO8 := Lib.hid (show Own w8 w.heap.size A5 (n4 + 4) c5 (sumB l) from ⟨HO5.out.1, HO5.out.2.1, row_turnW (row_turnW HO5.out.2.2 (Turn.grow G7 (fun _ => False)) (fun _ _ q => q)) t8 (fun k e q => by have := (World.ownsRow.lt HO5.out.2.2 k e).2; omega)⟩)
            have BX8 := Lib.hid ((BX5.out.keep G7).turnW t8 (by omega))
            have HR8 := Lib.hid ((HR5.out.grow G7).turnW t8 (fun hn q hq => HR5.out.ne hy6 hn q hq))
            have HG8 := Lib.hid (show Grow w w8 from HG5.out.trans (G7.low (t8.low (B := wc.heap.size) (fun i e => by have e' : i = y := e; omega) G7.size)))
            have HY8 := Lib.hid r8
            have OS8 := Lib.hid (show OS w8 w.heap.size nv Z.names from World.ownsRow.mono (row_turnW (os6.keep ga) t8 (fun k e q => by have := (World.ownsRow.lt os6 k e).2; omega)) (by have := HG5.out.size; omega))
            obtain ⟨A7, c7, rfl, hrs⟩ := RS.of_OS OS8.out
            have hsame := w_sameC p Z (c := c) (c' := c7) (by rw [← HM.out]; exact HR8.out) hrs HP.out.names.1 (by rcases HZN.out with e | e <;> rw [e]; exact HP.out.names.1; exact Nat.zero_le _)
            rw [← HM.out] at hsame
            clear r8 t8 z8 g6 ga hy0 hy hw7 os6 G7 HO5 BX5 HR5 HG5 hrs
            go_upto_region 23 with (fail)
            refine wp_region_list ?_
            refine wpList_runTo rfl (some 84) rfl (.int .i64 0) w8 (by first | rfl | go_simp) ?_
            refine wpList_runTo rfl (some 85) rfl (.bool false) w8 (by go_simp) ?_
            refine wpList_runTo rfl (some 86) rfl (.bool false) w8 (by go_simp) ?_
            go_simp
            refine wpList_loadRowG rfl 36 (.tmp 1) rfl (some 87) rfl x rfl (p.cells (.slice A m c)) _ BX8.out Try.underlying36 rfl pk_size ?_
            refine wpList_loadRowG rfl 36 (.tmp 7) rfl (some 88) rfl y rfl (Z.cells (.slice A7 Z.names.length c7)) _ HY8.out.1 Try.underlying36 rfl pk_size ?_
            go_simp
            refine wpList_callG rfl (some 89) rfl 54 #[.agg (p.cells (.slice A m c)).toArray, .agg (Z.cells (.slice A7 Z.names.length c7)).toArray] (by first | rfl | go_simp) _ hsame (fun e w' h => ⟨_, h.1⟩) ?_
            rintro v w9 ⟨he, g9⟩
            have HG9 := Lib.hid (HG8.out.trans g9)
            have HO9 := Lib.hid (show Own w9 w.heap.size A5 (n4 + 4) c5 (sumB l) from ⟨HO8.out.1, HO8.out.2.1, row_turnW HO8.out.2.2 (Turn.grow g9 (fun _ => False)) (fun _ _ q => q)⟩)
            clear g9 hsame
            by_cases hnp : p = Z
            · rw [decide_eq_true hnp] at he
              obtain rfl : v = .bool true := by injection he
              have HN := Lib.hid (putP_some HI.out (HZ.out.symm.trans hnp.symm))
              clear he hnp
              go_wp2_with fail
              go_ret2
              rw [HN.out]
              exact ⟨⟨A5, n4 + 4, c5, rfl, HO9.out⟩, HG9.out⟩
            · rw [decide_eq_false hnp] at he
              obtain rfl : v = .bool false := by injection he
              have HN := Lib.hid (putP_odd (fun e => hnp (HZ.out.trans e).symm))
              clear he hnp
              go_wp2_with fail
              go_ret2
              rw [HN.out]
              exact ⟨rfl, HG9.out⟩
    · have HN := Lib.hid (putP_none (kind0 (p := p) (fun h => hkb (by rw [HKI.out]; exact decide_eq_true h))))
      have HQ := Lib.hid (show ki < 1 ∨ 5 < ki by unfold kindB at hkb; rw [decide_eq_true_iff] at hkb; omega)
      have q1 : (ki == 1) = false := beq_eq_false_iff_ne.2 (by have := HQ.out; omega)
      have q2 : (ki == 2) = false := beq_eq_false_iff_ne.2 (by have := HQ.out; omega)
      have q3 : (ki == 3) = false := beq_eq_false_iff_ne.2 (by have := HQ.out; omega)
      have q4 : (ki == 4) = false := beq_eq_false_iff_ne.2 (by have := HQ.out; omega)
      have q5 : (ki == 5) = false := beq_eq_false_iff_ne.2 (by have := HQ.out; omega)
      clear hkb
      go_wp2_with fail
      go_ret2
      rw [HN.out]
      exact ⟨rfl, HG2.out.low (HT3.out.low (B := w.heap.size) (fun i e => by have e' : i = g := e; omega) HG2.out.size)⟩
end Go.Proofs.Ytdlcpfgogjcciaa

namespace Go.Proofs.Ytdlcpfgogjcciaa
open Go.RowKit Go.Great

def putE (p : PK) : Int := if (putP p).isSome = true then 0 else 1
def wputL (p : PK) : List UInt8 := (putP p).getD []
theorem putE_ok {p : PK} (h : putE p = 0) : ∃ l, innerP p = some l ∧ normP p = p ∧ wputL p = sumB l ∧ putP p = some (sumB l) := by
  unfold putE at h
  split at h
  · rename_i hs
    obtain ⟨y, hy⟩ := Option.isSome_iff_exists.1 hs
    have hy' := hy
    unfold putP at hy'
    obtain ⟨l, h1, h2⟩ := Option.bind_eq_some_iff.1 hy'
    split at h2
    · rename_i hn
      injection h2 with h2
      exact ⟨l, h1, hn, by unfold wputL; rw [hy, ← h2]; rfl, by rw [hy, ← h2]⟩
    · cases h2
  · cases h
theorem putE_bad {p : PK} (h : ¬ putE p = 0) : putE p = 1 ∧ wputL p = [] := by
  unfold putE wputL at *
  cases hp : putP p with
  | none => exact ⟨rfl, rfl⟩
  | some y => rw [hp] at h; exact absurd rfl h
theorem zero_i64 : i64B 0 := ⟨by decide, by decide⟩
theorem zero_ok : ({} : PK).ok := ⟨zero_i64, zero_i64, zero_i64, zero_i64, zero_i64, zero_i64, zero_i64, Nat.zero_le _, zero_i64, zero_i64, zero_i64, Nat.zero_le _, Nat.zero_le _, zero_i64, zero_i64, zero_i64, zero_i64, zero_i64, zero_i64, zero_i64, zero_i64, ⟨Nat.zero_le _, fun _ hs => absurd hs List.not_mem_nil⟩, zero_i64, zero_i64, zero_i64, zero_i64, zero_i64, zero_i64, zero_i64, zero_i64, zero_i64, zero_i64, zero_i64, zero_i64, zero_i64, zero_i64, zero_i64, zero_i64, zero_i64, zero_i64, zero_i64⟩
theorem Own.keepW {w w' : World} {base n c : Nat} {A : Option Addr} {bs : List UInt8} (h : Own w base A n c bs) (g : Grow w w') : Own w' base A n c bs := ⟨h.1, h.2.1, row_turnW h.2.2 (Turn.grow g (fun _ => False)) (fun _ _ q => q)⟩
theorem PutAns.form {w w' : World} {e : Ending} {p : PK} (h : PutAns w w' e (putP p)) : ∃ A n c, e = .returned (.tuple #[.slice A n c, .int .i64 (putE p)]) ∧ Own w' w.heap.size A n c (wputL p) := by
  unfold putE wputL
  cases hp : putP p with
  | none =>
    rw [hp] at h
    exact ⟨none, 0, 0, h, Own.nil _ _⟩
  | some b =>
    rw [hp] at h
    obtain ⟨A, n, c, h1, h2⟩ := h
    exact ⟨A, n, c, h1, h2⟩
theorem w_putK {w : World} {A : Option Addr} {k c : Nat} (p : PK) (hp : p.ok) (hk : k = p.names.length) (hr : RS w A k p.names) :
    Calls Try.prog 21 #[.agg (p.cells (.slice A k c)).toArray] w fun e w' => ∃ A' n' c', e = .returned (.tuple #[.slice A' n' c', .int .i64 (putE p)]) ∧ Own w' w.heap.size A' n' c' (wputL p) ∧ Grow w w' := by
  subst hk
  refine (w_put p hp hr).mono ?_
  rintro e w' ⟨h, g⟩
  obtain ⟨A', n', c', h1, h2⟩ := h.form
  exact ⟨A', n', c', h1, h2, g⟩
end Go.Proofs.Ytdlcpfgogjcciaa

namespace Go.Proofs.Ytdlcpfgogjcciaa
open Go.RowKit Go.Maps

/-- Block g is a row of n elements of 'size' cells, room for c: the cells xs. -/
def CR (w : World) (g : Nat) (e : TypeId) (size n c : Nat) (xs : List Value) : Prop := xs.length = n * size ∧ n ≤ c ∧ c ≤ maxLen ∧ ∃ cur, w.heap[g]? = some (.cells cur e) ∧ cur.size = c * size ∧ cur.toList.take (n * size) = xs
section
variable {w w' : World} {g size n c base : Nat} {e : TypeId} {xs : List Value} {F : Nat → Prop}
theorem CR.row (h : CR w g e size n c xs) (hb : base ≤ g) : w.ownsRow base e size (.slice (some ⟨g, 0, none⟩) n c) n xs := by
  obtain ⟨h1, h2, h3, cur, h4, h5, h6⟩ := h
  exact ⟨h1, .inr ⟨g, c, cur, rfl, hb, h4, h2, h3, h5, h6⟩⟩
theorem CR.of_row (h : w.ownsRow base e size (.slice (some ⟨g, 0, none⟩) n c) n xs) : CR w g e size n c xs := by
  rcases h.2 with ⟨h0, _⟩ | ⟨g', c', cur, hv, _, h4, h2, h3, h5, h6⟩
  · cases h0
  · injection hv with e1 e2 e3
    injection e1 with e1
    injection e1 with e1
    subst e1 e3
    exact ⟨h.1, h2, h3, cur, h4, h5, h6⟩
theorem CR.lt (h : CR w g e size n c xs) : g < w.heap.size := by
  obtain ⟨_, _, _, cur, h4, _⟩ := h
  exact (Array.getElem?_eq_some_iff.1 h4).1
theorem CR.same (h : CR w g e size n c xs) (hk : w'.heap[g]? = w.heap[g]?) : CR w' g e size n c xs := by
  obtain ⟨h1, h2, h3, cur, h4, h5⟩ := h
  exact ⟨h1, h2, h3, cur, hk.trans h4, h5⟩
theorem CR.turn (h : CR w g e size n c xs) (t : Turn F w w') (hg : ¬ F g) : CR w' g e size n c xs := h.same (t.block g h.lt hg)
theorem CR.cell (h : CR w g e size n c xs) {j : Nat} {u : Value} (hj : xs[j]? = some u) : w.cell? ⟨g, j, none⟩ = some u := by
  have := World.ownsRow.cells (h.row (Nat.zero_le _)) (g := g) rfl j u hj
  simpa [Addr.add_lit] using this
theorem CR.frozen (h : CR w g e size n c xs) (j : Nat) : w.frozen? ⟨g, j, none⟩ = false := World.ownsRow.frozenAt (h.row (Nat.zero_le _)) j
theorem CR.set (h : CR w g e size n c xs) (j : Nat) (v : Value) : CR (w.setCell ⟨g, j, none⟩ v) g e size n c (xs.set j v) := CR.of_row (World.ownsRow.stored (h.row (Nat.zero_le _)) j v).1
theorem CR.set_ne (h : CR w g e size n c xs) {p : Addr} (hp : p.block ≠ g) (v : Value) : CR (w.setCell p v) g e size n c xs := h.same (Below.heap_setCell _ _ _ _ (Ne.symm hp))
theorem CR.alloc (h : CR w g e size n c xs) (o : Obj) : CR (w.alloc o) g e size n c xs := h.turn (Turn.grow ((Grow.refl w).alloc o) fun _ => False) (fun q => q)
end

/-! ### the set -/
theorem pigeon : ∀ (N : Nat) (l : List Nat), l.Nodup → (∀ x ∈ l, x < N) → l.length ≤ N := by
  intro N
  induction N with
  | zero => intro l _ h; cases l with | nil => simp | cons x l => exact absurd (h x (by simp)) (by omega)
  | succ N ih =>
    intro l hn h
    by_cases hm : N ∈ l
    · have h1 := ih (l.erase N) (hn.erase N) (fun x hx => by
        have h2 := hn.mem_erase_iff.1 hx
        have := h x h2.2
        omega)
      rw [List.length_erase_of_mem hm] at h1
      omega
    · have := ih l hn (fun x hx => by
        have h1 := h x hx
        have h2 : x ≠ N := fun e => hm (e ▸ hx)
        omega)
      omega

def keyL (k : Nat) : Lit := .int .i64 (k : Int)
theorem int_keyed' : Keyed Try.prog 3 := int_keyed Try.underlying3
/-- Block b is a map that has just the numbers at which A is true, each below A's length. -/
def SetIs (w : World) (b : Nat) (A : List Bool) : Prop := ∃ D : DataW Unit, w.ownsMap Try.prog 3 (plainElem Try.prog 4) b A.length D ∧ ∀ kl, Maps.has D kl = true ↔ ∃ k, kl = keyL k ∧ A[k]? = some true

theorem owns_shrink {w : World} {b n N : Nat} {D : DataW Unit} (h : w.ownsMap Try.prog 3 (plainElem Try.prog 4) b n D) (hk : ∀ kl, Maps.has D kl = true → ∃ k, kl = keyL k ∧ k < N) : w.ownsMap Try.prog 3 (plainElem Try.prog 4) b N D := by
  obtain ⟨es, hD, hp, hl⟩ := h.entries int_keyed'
  have hsz : es.length ≤ N := by
    have hnat : ∀ p ∈ es, ∃ k : Nat, p.1 = keyL k ∧ k < N := fun p hm => hk p.1 (by rw [hD]; exact List.any_eq_true.2 ⟨p, hm, WideAt.sameKey_self (hl p hm)⟩)
    let f : Lit × DataW Unit → Nat := fun p => match p.1 with | .int _ z => z.toNat | _ => 0
    have hf : ∀ p ∈ es, p.1 = keyL (f p) ∧ f p < N := by
      intro p hm
      obtain ⟨k, h1, h2⟩ := hnat p hm
      have : f p = k := by simp [f, h1, keyL]
      rw [this]; exact ⟨h1, h2⟩
    have := pigeon N (es.map f) (by
      refine List.pairwise_map.2 (List.Pairwise.imp_of_mem ?_ hp)
      intro p q hpm hqm hne he
      exact hne (by rw [(hf p hpm).1, (hf q hqm).1, he])) (fun x hx => by
      obtain ⟨p, hm, rfl⟩ := List.mem_map.1 hx
      exact (hf p hm).2)
    simpa using this
  obtain ⟨es', clock, h1, h2, h3, h4⟩ := h
  refine ⟨es', clock, h1, h2, ?_, h4⟩
  rw [h4] at hD
  injection hD with hD
  rw [← hD, length_sorted] at hsz
  simpa using hsz

theorem SetIs.made (w : World) (N : Nat) : SetIs (w.alloc (.map #[] 0)) w.heap.size (List.replicate N false) := by
  refine ⟨_, (World.ownsMap_made w _ _ _).mono (Nat.zero_le _), fun kl => ?_⟩
  simp [Maps.has, List.getElem?_replicate]
theorem SetIs.kept {w w' : World} {b : Nat} {A : List Bool} (h : SetIs w b A) (hk : w'.heap[b]? = w.heap[b]?) : SetIs w' b A := by
  obtain ⟨D, ⟨es, clock, h1, h2⟩, h3⟩ := h
  exact ⟨D, ⟨es, clock, hk.trans h1, h2⟩, h3⟩
theorem SetIs.lt {w : World} {b : Nat} {A : List Bool} (h : SetIs w b A) : b < w.heap.size := by obtain ⟨D, h, _⟩ := h; exact h.lt
theorem SetIs.turn {w w' : World} {F : Nat → Prop} {b : Nat} {A : List Bool} (h : SetIs w b A) (t : Turn F w w') (hg : ¬ F b) : SetIs w' b A := h.kept (t.block b h.lt hg)
theorem set_get (A : List Bool) (k j : Nat) (v : Bool) (hk : k < A.length) : (A.set k v)[j]? = if j = k then some v else A[j]? := by
  by_cases e : j = k
  · subst e; simp [hk]
  · rw [List.getElem?_set_ne (Ne.symm e), if_neg e]
theorem keyL_inj {a b : Nat} (h : keyL a = keyL b) : a = b := by
  unfold keyL at h
  injection h with _ h
  omega
theorem keyL_is (k : Nat) : WideAt.IsKeyLit (keyL k) := trivial

section
variable {w : World} {ops : Array Oper} {rest : List Oper} {o : Oper} {a : Act} {Q : Exit → Act → World → Prop} {b : Nat} {A : List Bool}
/-- 'm[k] = true'. -/
theorem wpList_setPut (hg : o.guard = none) (m x v : Operand) (hop : o.op = Op.mapUpdate 71 m x v) (hm : a.eval m = .map (some b)) (h : SetIs w b A) (k : Nat) (hk : k < A.length) (hA : A.length ≤ 1000000) (hx : a.eval x = .int .i64 (k : Int)) (hv : a.eval v = .bool true)
    (hK : ∀ w', SetIs w' b (A.set k true) → w.grownBy w' (some b) → wpList Try.prog ops Q rest (a.put o.dst undef) w') : wpList Try.prog ops Q (o :: rest) a w := by
  obtain ⟨D, h1, h2⟩ := h
  refine wpList_mapUpdate_in w hg m x v 71 hop 3 4 int_keyed' Try.underlying71 _ b A.length D hm h1 (by unfold maxLen; omega) _ _ (keyL k) hx hv (keyOf_int_mk Try.underlying3 (WalkArith.wf_i64 (by omega))) _ [] (plainElem_bool Try.underlying4 true) ?_
  intro w' h3 h4
  have hh : ∀ kl, Maps.has (D.put (keyL k) (.lit (.bool true))) kl = true ↔ ∃ j, kl = keyL j ∧ (A.set k true)[j]? = some true := by
    intro kl
    by_cases e : kl = keyL k
    · subst e
      rw [Maps.has_put_same h1.isMap (keyL_is k)]
      exact ⟨fun _ => ⟨k, rfl, by rw [set_get A k k true hk, if_pos rfl]⟩, fun _ => rfl⟩
    · rw [Maps.has_put_other e, h2]
      constructor
      · rintro ⟨j, rfl, hj⟩
        refine ⟨j, rfl, ?_⟩
        rw [set_get A k j true hk, if_neg (fun q => e (by rw [q]))]
        exact hj
      · rintro ⟨j, rfl, hj⟩
        refine ⟨j, rfl, ?_⟩
        rw [set_get A k j true hk, if_neg (fun q => e (by rw [q]))] at hj
        exact hj
  refine hK w' ⟨_, owns_shrink h3 (fun kl hkl => ?_), hh⟩ h4.grown
  obtain ⟨j, h5, h6⟩ := (hh kl).1 hkl
  exact ⟨j, h5, (List.getElem?_eq_some_iff.1 h6).1⟩
theorem has_del {D : DataW Unit} (h2 : ∀ kl, Maps.has D kl = true ↔ ∃ k, kl = keyL k ∧ A[k]? = some true) {k : Nat} (hk : k < A.length) : ∀ kl, Maps.has (D.del (keyL k)) kl = true ↔ ∃ j, kl = keyL j ∧ (A.set k false)[j]? = some true := by
  intro kl
  by_cases e : kl = keyL k
  · subst e
    rw [Maps.has_del_same]
    constructor
    · intro h; cases h
    · rintro ⟨j, h3, h4⟩
      have := keyL_inj h3
      subst this
      rw [set_get A k k false hk, if_pos rfl] at h4
      cases h4
  · rw [Maps.has_del_other e, h2]
    constructor
    · rintro ⟨j, rfl, hj⟩
      refine ⟨j, rfl, ?_⟩
      rw [set_get A k j false hk, if_neg (fun q => e (by rw [q]))]
      exact hj
    · rintro ⟨j, rfl, hj⟩
      refine ⟨j, rfl, ?_⟩
      rw [set_get A k j false hk, if_neg (fun q => e (by rw [q]))] at hj
      exact hj
/-- 'delete(m, k)'. -/
theorem wpList_setDel (hg : o.guard = none) (m x : Operand) (hop : o.op = Op.call { callee := Callee.builtin Builtin.delete, args := #[m, x], argTypes := #[71, 3] }) (hm : a.eval m = .map (some b)) (h : SetIs w b A) (k : Nat) (hk : k < A.length) (hk2 : k ≤ 1000000) (hx : a.eval x = .int .i64 (k : Int))
    (hK : ∀ w', SetIs w' b (A.set k false) → w.grownBy w' (some b) → w'.heap.size = w.heap.size → wpList Try.prog ops Q rest (a.put o.dst (.tuple #[])) w') : wpList Try.prog ops Q (o :: rest) a w := by
  obtain ⟨D, h1, h2⟩ := h
  refine wpList_delete_own w hg m x 71 3 hop 4 int_keyed' Try.underlying71 _ b A.length D hm h1 _ (keyL k) hx (keyOf_int_mk Try.underlying3 (WalkArith.wf_i64 (by omega))) ?_
  intro w' h3 h4
  refine hK w' ⟨_, by rw [List.length_set]; exact h3, has_del h2 hk⟩ h4.grown ?_
  obtain ⟨es, clock, es', clock', _, rfl⟩ := h4
  simp [Go.ChangeMaps.setBlock]
end
end Go.Proofs.Ytdlcpfgogjcciaa

namespace Go.Proofs.Ytdlcpfgogjcciaa

def inW (L : Nat) (at_ n : Int) : Bool := decide (0 ≤ at_ ∧ 0 ≤ n ∧ at_ + n ≤ (L : Int))
theorem inW_iff {L : Nat} {at_ n : Int} : inW L at_ n = true ↔ 0 ≤ at_ ∧ 0 ≤ n ∧ at_ + n ≤ (L : Int) := by simp [inW]

/-- Bytes put one by one. -/
def putL (S : List UInt8) (i : Nat) : List UInt8 → List UInt8
  | [] => S
  | u :: bs => putL (S.set i u) (i + 1) bs
theorem putL_snoc (bs : List UInt8) (u : UInt8) : ∀ (S : List UInt8) (i : Nat), putL S i (bs ++ [u]) = (putL S i bs).set (i + bs.length) u := by
  induction bs with
  | nil => intro S i; rfl
  | cons v bs ih =>
    intro S i
    simp only [List.cons_append, putL, ih, List.length_cons]
    rw [show i + 1 + bs.length = i + (bs.length + 1) by omega]
theorem putL_length (bs : List UInt8) : ∀ (S : List UInt8) (i : Nat), (putL S i bs).length = S.length := by
  induction bs with
  | nil => intro S i; rfl
  | cons v bs ih => intro S i; simp [putL, ih]
theorem putL_take {S bs : List UInt8} {i k : Nat} (hk : k < bs.length) : putL S i (bs.take (k + 1)) = (putL S i (bs.take k)).set (i + k) bs[k] := by
  rw [List.take_succ_eq_append_getElem hk, putL_snoc, List.length_take, Nat.min_eq_left (by omega)]
/-- The cells of bytes that were put are no longer on their way. -/
def clrL (A : List Bool) (i : Nat) : Nat → List Bool
  | 0 => A
  | n + 1 => (clrL A i n).set ((i + n) / 8) false
theorem clrL_length (A : List Bool) (i n : Nat) : (clrL A i n).length = A.length := by
  induction n with
  | zero => rfl
  | succ n ih => simp [clrL, ih]

/-- Bytes as they are seen go where they last. -/
def keepN (S T : List UInt8) (i : Nat) : Nat → List UInt8
  | 0 => T
  | n + 1 => (keepN S T i n).set (i + n) (S.getD (i + n) 0)
theorem keepN_length (S T : List UInt8) (i n : Nat) : (keepN S T i n).length = T.length := by
  induction n with
  | zero => rfl
  | succ n ih => simp [keepN, ih]
theorem keepN_get (S T : List UInt8) (i n j : Nat) (hj : j < T.length) : (keepN S T i n).getD j 0 = if i ≤ j ∧ j < i + n then S.getD j 0 else T.getD j 0 := by
  induction n with
  | zero => rw [keepN, if_neg (by omega)]
  | succ n ih =>
    have hl := keepN_length S T i n
    rw [keepN, List.getD_eq_getElem?_getD]
    by_cases e : i + n = j
    · subst e
      rw [List.getElem?_set_self (by omega), if_pos (by omega)]
      rfl
    · rw [List.getElem?_set_ne e, ← List.getD_eq_getElem?_getD, ih]
      by_cases h : i ≤ j ∧ j < i + n
      · rw [if_pos h, if_pos (by omega)]
      · rw [if_neg h, if_neg (by omega)]
theorem ext_getD {A B : List UInt8} (hl : A.length = B.length) (h : ∀ j, j < A.length → A.getD j 0 = B.getD j 0) : A = B := by
  apply List.ext_getElem hl
  intro j h1 h2
  have := h j h1
  simpa [List.getD_eq_getElem?_getD, h1, h2] using this

/-- Of those cells the bytes as they are seen, of the others as they last. -/
def mixL (S T : List UInt8) (B : Nat → Bool) : List UInt8 := (List.range T.length).map fun j => if B (j / 8) then S.getD j 0 else T.getD j 0
theorem mixL_length (S T : List UInt8) (B : Nat → Bool) : (mixL S T B).length = T.length := by simp [mixL]
theorem mixL_get (S T : List UInt8) (B : Nat → Bool) (j : Nat) (hj : j < T.length) : (mixL S T B).getD j 0 = if B (j / 8) then S.getD j 0 else T.getD j 0 := by
  simp [mixL, List.getD_eq_getElem?_getD, hj]
theorem mixL_none (S T : List UInt8) {B : Nat → Bool} (h : ∀ k, B k = false) : mixL S T B = T := by
  refine ext_getD (mixL_length ..) fun j hj => ?_
  rw [mixL_length] at hj
  rw [mixL_get S T B j hj, if_neg (by rw [h]; decide)]
theorem mixL_keep (S T : List UInt8) (B : Nat → Bool) (k : Nat) : keepN S (mixL S T B) (8 * k) 8 = mixL S T fun j => B j || j == k := by
  refine ext_getD (by rw [keepN_length, mixL_length, mixL_length]) fun j hj => ?_
  rw [keepN_length, mixL_length] at hj
  rw [keepN_get _ _ _ _ _ (by rw [mixL_length]; exact hj), mixL_get _ _ _ _ hj, mixL_get _ _ _ _ hj]
  by_cases h : 8 * k ≤ j ∧ j < 8 * k + 8
  · have : j / 8 = k := by omega
    rw [if_pos h, if_pos (by simp [this])]
  · have : ¬ j / 8 = k := by omega
    rw [if_neg h]
    simp [this]
theorem mixL_congr (S T : List UInt8) {B C : Nat → Bool} (h : ∀ k, 8 * k < T.length → B k = C k) : mixL S T B = mixL S T C := by
  refine ext_getD (by rw [mixL_length, mixL_length]) fun j hj => ?_
  rw [mixL_length] at hj
  rw [mixL_get _ _ _ _ hj, mixL_get _ _ _ _ hj, h (j / 8) (by omega)]

/-- Does a cell not last as it is seen? -/
def dirtyB (S T : List UInt8) (k : Nat) : Bool := (List.range 8).any fun j => S.getD (8 * k + j) 0 != T.getD (8 * k + j) 0
def dirtyL (S T : List UInt8) (N : Nat) : List Int := ((List.range N).filter (dirtyB S T)).map Int.ofNat
def clrAll (A : List Bool) : List Bool := List.replicate A.length false
/-- Is a cell in a line that bytes touch? -/
def lineB (at_ n : Nat) (k : Nat) : Bool := decide (0 < n ∧ at_ / 64 ≤ k / 8 ∧ k / 8 ≤ (at_ + n - 1) / 64)
def flushA (S T : List UInt8) (A : List Bool) (B : Nat → Bool) : List Bool := (List.range A.length).map fun k => A.getD k false || (B k && dirtyB S T k)
theorem flushA_length (S T : List UInt8) (A : List Bool) (B : Nat → Bool) : (flushA S T A B).length = A.length := by simp [flushA]
theorem getD_ext {A B : List Bool} (hl : A.length = B.length) (h : ∀ j, j < A.length → A.getD j false = B.getD j false) : A = B := by
  apply List.ext_getElem hl
  intro j h1 h2
  have := h j h1
  simpa [List.getD_eq_getElem?_getD, h1, h2] using this
theorem getD_set (A : List Bool) (k j : Nat) (v : Bool) (hk : k < A.length) : (A.set k v).getD j false = if j = k then v else A.getD j false := by
  rw [List.getD_eq_getElem?_getD]
  by_cases e : j = k
  · subst e; rw [List.getElem?_set_self hk, if_pos rfl]; rfl
  · rw [List.getElem?_set_ne (Ne.symm e), if_neg e, ← List.getD_eq_getElem?_getD]
theorem flushA_get (S T : List UInt8) (A : List Bool) (B : Nat → Bool) (k : Nat) (hk : k < A.length) : (flushA S T A B).getD k false = (A.getD k false || (B k && dirtyB S T k)) := by
  simp [flushA, List.getD_eq_getElem?_getD, hk]
theorem flushA_none (S T : List UInt8) (A : List Bool) {B : Nat → Bool} (h : ∀ k, B k = false) : flushA S T A B = A := by
  refine getD_ext (flushA_length ..) fun j hj => ?_
  rw [flushA_length] at hj
  rw [flushA_get _ _ _ _ _ hj, h]
  simp
theorem flushA_congr (S T : List UInt8) (A : List Bool) {B C : Nat → Bool} (h : ∀ k, k < A.length → dirtyB S T k = true → B k = C k) : flushA S T A B = flushA S T A C := by
  refine getD_ext (by rw [flushA_length, flushA_length]) fun j hj => ?_
  rw [flushA_length] at hj
  rw [flushA_get _ _ _ _ _ hj, flushA_get _ _ _ _ _ hj]
  cases hd : dirtyB S T j with
  | false => simp
  | true => rw [h j hj hd]
theorem flushA_set (S T : List UInt8) (A : List Bool) (B : Nat → Bool) (k : Nat) (hk : k < A.length) (hd : dirtyB S T k = true) : (flushA S T A B).set k true = flushA S T A fun j => B j || decide (j = k) := by
  refine getD_ext (by rw [List.length_set, flushA_length, flushA_length]) fun j hj => ?_
  rw [List.length_set, flushA_length] at hj
  rw [getD_set _ _ _ _ (by rw [flushA_length]; exact hk), flushA_get _ _ _ _ _ hj, flushA_get _ _ _ _ _ hj]
  by_cases e : j = k
  · subst e; simp [hd]
  · simp [e]
theorem flushA_skip (S T : List UInt8) (A : List Bool) (B : Nat → Bool) (k : Nat) (hd : dirtyB S T k = false) : flushA S T A B = flushA S T A fun j => B j || decide (j = k) :=
  flushA_congr S T A fun j _ hj => by
    by_cases e : j = k
    · subst e; rw [hd] at hj; cases hj
    · simp [e]
/-- Does a pick let a cell last? -/
def oddP (p : Int) : Bool := (p % 2 != 0) != decide (p < 0)
/-- The cells that the first i picks let last. -/
def crashB (l pk : List Int) : Nat → Nat → Bool
  | 0 => fun _ => false
  | i + 1 => fun k => crashB l pk i k || (decide (l[i]? = some (k : Int)) && decide (i < pk.length) && oddP (pk.getD i 0))
theorem crashB_skip {l pk : List Int} {i : Nat} (h : i < pk.length → oddP (pk.getD i 0) = false) : crashB l pk (i + 1) = crashB l pk i := by
  funext k
  simp only [crashB]
  by_cases hi : i < pk.length
  · rw [h hi]; simp
  · rw [decide_eq_false hi]; simp
theorem crashB_go {l pk : List Int} {i k0 : Nat} (hl : l[i]? = some (k0 : Int)) (hi : i < pk.length) (ho : oddP (pk.getD i 0) = true) : crashB l pk (i + 1) = fun k => crashB l pk i k || k == k0 := by
  funext k
  simp only [crashB, hl, ho, decide_eq_true hi, Bool.and_true]
  congr 1
  by_cases e : k = k0
  · subst e; simp
  · rw [beq_false_of_ne e]; apply decide_eq_false; intro q; injection q with q; omega
theorem crashB_after {l pk : List Int} {i : Nat} (hi : pk.length ≤ i) : ∀ j, crashB l pk (i + j) = crashB l pk i := by
  intro j
  induction j with
  | zero => rfl
  | succ j ih => rw [← ih]; exact crashB_skip fun q => by (have q2 : i + j < pk.length := q; omega)
/-- Cells from c on are no longer on their way. -/
def clrC (A : List Bool) (c : Nat) : Nat → List Bool
  | 0 => A
  | n + 1 => (clrC A c n).set (c + n) false
theorem clrC_length (A : List Bool) (c n : Nat) : (clrC A c n).length = A.length := by
  induction n with
  | zero => rfl
  | succ n ih => simp [clrC, ih]
def inC (c n : Nat) (k : Nat) : Bool := decide (c ≤ k ∧ k < c + n)
theorem mixL_inC (S T : List UInt8) (c n : Nat) : keepN S (mixL S T (inC c n)) (8 * (c + n)) 8 = mixL S T (inC c (n + 1)) := by
  rw [mixL_keep]
  refine mixL_congr S T fun k _ => ?_
  simp only [inC]
  by_cases h : k = c + n
  · subst h; simp
  · rw [beq_false_of_ne h, Bool.or_false]; congr 1; apply propext; omega
end Go.Proofs.Ytdlcpfgogjcciaa
