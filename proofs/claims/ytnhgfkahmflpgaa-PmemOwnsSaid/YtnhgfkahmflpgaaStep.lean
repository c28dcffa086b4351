/- A deed out of a slice of deeds, done to both memories. No statement of the seat is proved here. -/
import Derived.Test.YtnhgfkahmflpgaaDoes
import Derived.Test.YtnhgfkahmflpgaaOpenDeed
import Derived.Test.YtnhgfkahmflpgaaRm8
namespace Go.Proofs.Ytnhgfkahmflpgaa
open Go.RowKit

/-- The program's memory at p0, the document's at y, alike; what was there at W is as it was. -/
def Both (W w : World) (p0 : Nat) (y : MB) (N : Nat) : Prop := ∃ (x : MB) (S T : List UInt8) (A : List Bool), x.p = p0 ∧ Pair w W.heap.size x y N S T A ∧ Grow W w
theorem Both.keep {W w w' : World} {p0 : Nat} {y : MB} {N : Nat} (h : Both W w p0 y N) (g : Grow w w') : Both W w' p0 y N := by
  obtain ⟨x, S, T, A, h1, h2, h3⟩ := h
  exact ⟨x, S, T, A, h1, h2.keep g, h3.trans g⟩

theorem deed_step {W w : World} {p0 : Nat} {y : MB} {N : Nat} (h : Both W w p0 y N) {e : Dd} (he : e.ok W) :
    Calls Try.prog 13 #[.pointer (some ⟨p0, 0, none⟩), .pointer (some ⟨y.p, 0, none⟩), .agg #[.int .i64 e.k, .int .i64 e.a, .int .i64 e.n, .slice e.B e.bs.length e.c, .slice e.Q e.pk.length e.d]] w fun r w' => r = .returned (.bool true) ∧ Both W w' p0 y N := by
  obtain ⟨x, S, T, A, rfl, hp, G⟩ := h
  obtain ⟨h1, h2, h3, h4, h5, h6, h7⟩ := he
  have hrb : RB w w.heap.size e.B e.bs := (h3.below G).more G.size
  refine (does3 hp G.size e.k e.a e.n e.B e.bs.length e.c e.Q e.pk.length e.d e.bs e.pk h2.1 h2.2 rfl rfl h4 h6 hrb (h5.keep G) ?_ ?_ h7).mono ?_
  · intro h0 p hB
    obtain ⟨b, o, q, hb, -⟩ := h3.2 h0
    rw [q] at hB
    injection hB with hB
    subst hB
    exact ⟨fun k => absurd (hp.2.2.2.1 _ k) (Nat.not_le.2 hb), fun k => absurd (hp.2.2.2.2 _ k) (Nat.not_le.2 hb)⟩
  · intro h0 p hB
    obtain ⟨b, o, q, hb, -⟩ := h5.2.2 h0
    rw [q] at hB
    injection hB with hB
    subst hB
    exact ⟨fun k => absurd (hp.2.2.2.1 _ k) (Nat.not_le.2 hb), fun k => absurd (hp.2.2.2.2 _ k) (Nat.not_le.2 hb)⟩
  · rintro r w' ⟨rfl, x', S', T', A', hx, hp', hb, hz, -⟩
    exact ⟨rfl, x', S', T', A', hx, hp', G.low hb⟩

theorem like_step {W w : World} {p0 : Nat} {y : MB} {N : Nat} (h : Both W w p0 y N) (hN : N ≤ 50000) :
    Calls Try.prog 19 #[.pointer (some ⟨p0, 0, none⟩), .pointer (some ⟨y.p, 0, none⟩)] w fun r w' => r = .returned (.bool true) ∧ Both W w' p0 y N := by
  obtain ⟨x, S, T, A, rfl, hp, G⟩ := h
  refine (like3 hp hN).mono ?_
  rintro r w' ⟨rfl, g⟩
  exact ⟨rfl, x, S, T, A, rfl, hp.keep g, G.trans g⟩

/-- Both, new. -/
theorem both_new {W w1 w2 : World} {N : Nat} {x y : MB} {S T : List UInt8} {A : List Bool} (hP : PM w1 x N S T A) (hx : ∀ k, x.F k → W.heap.size ≤ k) (g1 : Grow W w1) (hR : RM w2 y N S T A) (hy : ∀ k, y.F k → w1.heap.size ≤ k) (g2 : Grow w1 w2) : Both W w2 x.p y N :=
  ⟨x, S, T, A, rfl, ⟨hP.keep g2, hR, fun k q q2 => by have := hP.lt _ q; have := hy _ q2; omega, hx, fun k q => Nat.le_trans g1.size (hy _ q)⟩, g1.trans g2⟩

theorem RD.at_ {W : World} {A : Option Addr} {n : Nat} {L : List Dd} (h : RD W A n L) {i : Nat} (hi : i < n) : ∃ (b o : Nat) (e : Dd), A = some ⟨b, o, none⟩ ∧ b < W.heap.size ∧ e.ok W ∧
    W.cell? ⟨b, o + i * 5, none⟩ = some (.int .i64 e.k) ∧ W.cell? ⟨b, o + i * 5 + 1, none⟩ = some (.int .i64 e.a) ∧ W.cell? ⟨b, o + i * 5 + 2, none⟩ = some (.int .i64 e.n) ∧ W.cell? ⟨b, o + i * 5 + 3, none⟩ = some (.slice e.B e.bs.length e.c) ∧ W.cell? ⟨b, o + i * 5 + 4, none⟩ = some (.slice e.Q e.pk.length e.d) := by
  obtain ⟨h1, h2, h3⟩ := h
  obtain ⟨b, o, hA, hb, hc⟩ := h3 (by omega)
  have hi' : i < L.length := by omega
  exact ⟨b, o, L[i], hA, hb, h2 _ (List.getElem_mem _), hc i hi' 0 (by omega), hc i hi' 1 (by omega), hc i hi' 2 (by omega), hc i hi' 3 (by omega), hc i hi' 4 (by omega)⟩
end Go.Proofs.Ytnhgfkahmflpgaa
