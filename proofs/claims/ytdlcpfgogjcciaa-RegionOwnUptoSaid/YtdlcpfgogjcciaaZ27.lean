/- What the laws share: deeds in a slice, the loop over them. No statement of the seat is proved here. -/
import Derived.Test.YtdlcpfgogjcciaaZ26
namespace Go.Proofs.Ytdlcpfgogjcciaa
open Go.RowKit Go.Great

/-- n deeds lie in a slice. -/
def DD (W : World) (A : Option Addr) (n : Nat) (L : List Dq) : Prop := L.length = n ∧ (∀ e ∈ L, e.ok W) ∧ (0 < n → ∃ b o, A = some ⟨b, o, none⟩ ∧ b < W.heap.size ∧ ∀ i (hi : i < L.length), W.rangeAt b (o + i * 46) L[i].cells)
theorem Dq.ok.keep {e : Dq} {W w : World} (h : e.ok W) (g : Grow W w) : e.ok w := { h with names := h.names.grow g, picks := h.picks.keep g }
theorem DD.at_ {W : World} {A : Option Addr} {n : Nat} {L : List Dq} (h : DD W A n L) {i : Nat} (hi : i < n) : ∃ (b o : Nat) (e : Dq), A = some ⟨b, o, none⟩ ∧ b < W.heap.size ∧ e.ok W ∧ W.rangeAt b (o + i * 46) e.cells := by
  obtain ⟨h1, h2, h3⟩ := h
  obtain ⟨b, o, hA, hb, hc⟩ := h3 (by omega)
  exact ⟨b, o, L[i]'(by omega), hA, hb, h2 _ (List.getElem_mem _), hc i (by omega)⟩
theorem range_keep {W w : World} {b o : Nat} {cs : List Value} (h : W.rangeAt b o cs) (g : Grow W w) : w.rangeAt b o cs := fun j v hv => g.cell (h j v hv)
theorem deed_size : (Try.prog.info? 42).map (·.size) = some 46 := by kernel_rfl
def LInv (W wr : World) (pb n lim : Nat) (t : Value) : Prop := ∃ i : Nat, t = .int .i64 (i : Int) ∧ i ≤ n ∧ i ≤ lim ∧ ∃ s, B20 W wr pb s
def intV : Value → Int
  | .int _ n => n
  | _ => 0
theorem P20.rebase {W w1 w : World} {pb c d z : Nat} {x y : MB} {s t : CS} (h : P20 w1 w pb c d z x y s t) (g : Grow W w1) : P20 W w pb c d z x y s t :=
  { h with grow := g.trans h.grow, xW := fun k e => Nat.le_trans g.size (h.xW k e), yW := fun k e => Nat.le_trans g.size (h.yW k e), cW := Nat.le_trans g.size h.cW, dW := Nat.le_trans g.size h.dW, zW := Nat.le_trans g.size h.zW, pW := Nat.le_trans g.size h.pW }
/-- A block that was there ahead of the pair. -/
theorem farLow {W w1 w : World} {pb c d z u : Nat} {x y : MB} {s t : CS} (h : P20 w1 w pb c d z x y s t) (hu : u < w1.heap.size) (hW : W.heap.size ≤ u) : Far c d z pb x y W u :=
  ⟨fun e => by have := h.xW _ e; omega, fun e => by have := h.yW _ e; omega, by have := h.cW; omega, by have := h.dW; omega, by have := h.zW; omega, by have := h.pW; omega, hW⟩
theorem fenced2 {s : CS} {q : PK} (he : ¬ q.epoch = (if isB q.client = true then (s.side q.client).ep else 0)) : (doP s q).2.2 = s.stale ∧ ((doP s q).2.1 = true → (doP s q).1.errno = 31) := by
  by_cases hb : isB q.client = true
  · rw [if_pos hb] at he
    exact fenced_is he
  · have e : doP s q = ({}, false, s.stale) := by
      unfold doP
      rw [if_neg (fun h => hb (decide_eq_true (askOk h.1 h.2).client))]
    rw [e]
    exact ⟨rfl, fun h => by cases h⟩
theorem load_all {S : List UInt8} (h : S.length = 8 * 2896) : loadM 2896 0 23168 = 23168 ∧ loadL 2896 S 0 23168 = S := by
  refine ⟨by decide +kernel, ?_⟩
  unfold loadL
  rw [if_pos (by decide +kernel)]
  show (S.drop 0).take 23168 = S
  rw [List.drop_zero, List.take_of_length_le (by omega)]
theorem lasts_all {T : List UInt8} (h : T.length = 8 * 2896) : (T.drop 0).take 23168 = T := by
  rw [List.drop_zero, List.take_of_length_le (by omega)]
/-- A slice that is the call's own and later than the pair survives a verb. -/
theorem Sl.verb {W w w' : World} {pb c d z n cc : Nat} {x y : MB} {s t : CS} {A : Option Addr} {bs : List UInt8} (h : P20 W w pb c d z x y s t) {w5 : World} (o : Own w5 w.heap.size A n cc bs) {F : Nat → Prop} (hF : ∀ k, F k → x.F k ∨ k = c) {v : World} (hs : Sl v A n bs) (T : Turn F v w') : Sl w' A n bs :=
  hs.turnW T (fun h0 q hq e => by
    subst hq
    have h1 := (World.ownsRow.lt o.2.2 q.block rfl).1
    have f := far20 h h1
    exact (hF _ e).elim f.x f.c)
end Go.Proofs.Ytdlcpfgogjcciaa
