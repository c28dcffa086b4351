/- What the laws share: deeds in a slice, the loop over them. like. No statement of the seat is proved here. -/
import Derived.Test.YtdlcpfgogjcciaaGreatZ26
namespace Go.Proofs.YtdlcpfgogjcciaaGreat
open Go.RowKit Go.Great

/-- n deeds lie in a slice. -/
def DD (W : World) (A : Option Addr) (n : Nat) (L : List Dq) : Prop := L.length = n ∧ (∀ e ∈ L, e.ok W) ∧ (0 < n → ∃ b o, A = some ⟨b, o, none⟩ ∧ b < W.heap.size ∧ ∀ i (hi : i < L.length), W.rangeAt b (o + i * 46) L[i].cells)
theorem Dq.ok.keep {e : Dq} {W w : World} (h : e.ok W) (g : Grow W w) : e.ok w := { h with names := h.names.grow g, picks := h.picks.keep g }
theorem DD.at_ {W : World} {A : Option Addr} {n : Nat} {L : List Dq} (h : DD W A n L) {i : Nat} (hi : i < n) : ∃ (b o : Nat) (e : Dq), A = some ⟨b, o, none⟩ ∧ b < W.heap.size ∧ e.ok W ∧ W.rangeAt b (o + i * 46) e.cells := by
  obtain ⟨h1, h2, h3⟩ := h
  obtain ⟨b, o, hA, hb, hc⟩ := h3 (by omega)
  exact ⟨b, o, L[i]'(by omega), hA, hb, h2 _ (List.getElem_mem _), hc i (by omega)⟩
theorem range_keep {W w : World} {b o : Nat} {cs : List Value} (h : W.rangeAt b o cs) (g : Grow W w) : w.rangeAt b o cs := fun j v hv => g.cell (h j v hv)
theorem deed_size : (Tryz.prog.info? 42).map (·.size) = some 46 := by kernel_rfl
def LInv (W wr : World) (pb n lim : Nat) (t : Value) : Prop := ∃ i : Nat, t = .int .i64 (i : Int) ∧ i ≤ n ∧ i ≤ lim ∧ ∃ s, B20 W wr pb s
def intV : Value → Int
  | .int _ n => n
  | _ => 0
theorem P20.rebase {W w1 w : World} {pb c d z : Nat} {x y : MB} {s t : CS} (h : P20 w1 w pb c d z x y s t) (g : Grow W w1) : P20 W w pb c d z x y s t :=
  { h with grow := g.trans h.grow, xW := fun k e => Nat.le_trans g.size (h.xW k e), yW := fun k e => Nat.le_trans g.size (h.yW k e), cW := Nat.le_trans g.size h.cW, dW := Nat.le_trans g.size h.dW, zW := Nat.le_trans g.size h.zW, pW := Nat.le_trans g.size h.pW }
/-- A block that was there ahead of the pair. -/
theorem farLow {W w1 w : World} {pb c d z u : Nat} {x y : MB} {s t : CS} (h : P20 w1 w pb c d z x y s t) (hu : u < w1.heap.size) (hW : W.heap.size ≤ u) : Far c d z pb x y W u :=
  ⟨fun e => by have := h.xW _ e; omega, fun e => by have := h.yW _ e; omega, by have := h.cW; omega, by have := h.dW; omega, by have := h.zW; omega, by have := h.pW; omega, hW⟩
theorem fenced2 {s : CS} {q : PK} (he : ¬ q.epoch = (if isB q.client = true then (s.side q.client).ep else 0)) : (doP s q).2.2 = s.stale ∧ ((doP s q).2.1 = true → (doP s q).1.errno = 31) := by
  by_cases hb : isB q.client = true
  · rw [if_pos hb] at he
    exact fenced_is he
  · have e : doP s q = ({}, false, s.stale) := by
      unfold doP
      rw [if_neg (fun h => hb (decide_eq_true (askOk h.1 h.2).client))]
    rw [e]
    exact ⟨rfl, fun h => by cases h⟩
theorem load_all {S : List UInt8} (h : S.length = 8 * 2896) : loadM 2896 0 23168 = 23168 ∧ loadL 2896 S 0 23168 = S := by
  refine ⟨by decide +kernel, ?_⟩
  unfold loadL
  rw [if_pos (by decide +kernel)]
  show (S.drop 0).take 23168 = S
  rw [List.drop_zero, List.take_of_length_le (by omega)]
theorem lasts_all {T : List UInt8} (h : T.length = 8 * 2896) : (T.drop 0).take 23168 = T := by
  rw [List.drop_zero, List.take_of_length_le (by omega)]
/-- A slice that is the call's own and later than the pair survives a verb. -/
theorem Sl.verb {W w w' : World} {pb c d z n cc : Nat} {x y : MB} {s t : CS} {A : Option Addr} {bs : List UInt8} (h : P20 W w pb c d z x y s t) {w5 : World} (o : Own w5 w.heap.size A n cc bs) {F : Nat → Prop} (hF : ∀ k, F k → x.F k ∨ k = c) {v : World} (hs : Sl v A n bs) (T : Turn F v w') : Sl w' A n bs :=
  hs.turnW T (fun h0 q hq e => by
    subst hq
    have h1 := (World.ownsRow.lt o.2.2 q.block rfl).1
    have f := far20 h h1
    exact (hF _ e).elim f.x f.c)
end Go.Proofs.YtdlcpfgogjcciaaGreat

namespace Go.Proofs.YtdlcpfgogjcciaaGreat
open Go.RowKit Go.Great

theorem load_part (S : List UInt8) : loadM 2896 6784 8400 = 8400 ∧ loadL 2896 S 6784 8400 = (S.drop 6784).take 8400 := by
  refine ⟨by decide +kernel, ?_⟩
  unfold loadL
  rw [if_pos (by decide +kernel)]
  rfl
set_option maxHeartbeats 8000000 in
set_option maxRecDepth 8000 in
theorem like20 {W w : World} {pb c d z : Nat} {x y : MB} {s : CS} (h : P20 W w pb c d z x y s s) :
    Calls Tryz.prog 8 #[.pointer (some ⟨pb, 0, none⟩)] w fun r w' => r = .returned (.bool true) ∧ Grow w w' := by
  have HP := Lib.hid h
  have p0 := h.row.1.2 0 _ rfl
  clear h
  go_enter Tryz.func8, Tryz.ntmps8
  go_wp2_with fail
  refine (pm_loadU HP.out.cd.1 6784 8400 (by decide) (by decide)).mono ?_
  rintro r w1 ⟨A1, c1, rfl, o1, g1⟩
  rw [(load_part s.m.S).1] at o1 ⊢
  rw [(load_part s.m.S).2] at o1
  have HS1 := Lib.hid (show Sl w1 A1 8400 ((s.m.S.drop 6784).take 8400) from o1.sl)
  have HG1 := Lib.hid g1
  have HP1 := Lib.hid (HP.out.keep g1)
  have p01 := HP1.out.row.1.2 0 _ rfl
  clear o1 g1 p0 HP
  go_wp2_with fail
  refine (pm_lasts HP1.out.cd.1 6784 8400 (by decide)).mono ?_
  rintro r w2 ⟨A2, c2, rfl, o2, g2⟩
  have HS2 := Lib.hid (show Sl w2 A2 8400 ((s.m.T.drop 6784).take 8400) from o2.sl)
  have HG2 := Lib.hid (HG1.out.trans g2)
  have HP2 := Lib.hid (HP1.out.keep g2)
  replace HS1 := Lib.hid (HS1.out.keep g2)
  clear o2 g2 p01 HP1 HG1
  have p2 := HP2.out.row.1.2 2 _ rfl
  obtain ⟨L', cs, ct, ca, hL, hcs, hct, -, hy0, hy1, -, -⟩ := HP2.out.rd.1.look
  have hLL := hL.out
  have HA := Lib.hid ((Sl.ofRB HP2.out.rd.1.seenRB (HP2.out.rd.1.lenS.trans hL.out.symm) (by omega) : Sl w2 (some ⟨y.gs, 0, none⟩) L' s.m.S).part (c := cs) (a := 6784) (n := 8400) hcs (by omega) (by omega))
  have HB := Lib.hid ((Sl.ofRB HP2.out.rd.1.lastRB (HP2.out.rd.1.lenT.trans hL.out.symm) (by omega) : Sl w2 (some ⟨y.gt, 0, none⟩) L' s.m.T).part (c := ct) (a := 6784) (n := 8400) hct (by omega) (by omega))
  have n1 : ¬ cs = 6784 := by omega
  have n2 : ¬ ct = 6784 := by omega
  have n3 : 15184 ≤ cs := by omega
  have n4 : 15184 ≤ ct := by omega
  clear hL hcs hct hLL
  go_wp2_with fail
  refine (same_yes (HS1.out) (HA.out) rfl).mono ?_
  rintro r w3 ⟨rfl, k1, rfl⟩
  go_wp2_with fail
  refine (same_yes (HS2.out.drewN k1) (HB.out.drewN k1) rfl).mono ?_
  rintro r w4 ⟨rfl, k2, rfl⟩
  go_wp2_with fail
  go_ret
  exact ⟨rfl, HG2.out.trans (by (repeat (first | exact Grow.refl _ | refine Grow.drew ?_ | refine Grow.drewN ?_ _)))⟩
end Go.Proofs.YtdlcpfgogjcciaaGreat
