/- The verbs of both memories, allowed or not, in one word each. No statement of the seat is proved here. -/
import Derived.Test.YtnhgfkahmflpgaaRm5
import Derived.Test.YtnhgfkahmflpgaaRm6
import Derived.Test.YtnhgfkahmflpgaaLike
namespace Go.Proofs.Ytnhgfkahmflpgaa
open Go.RowKit

def errV (b : Bool) : Int := if b then 0 else 1
def storeS (N : Nat) (S : List UInt8) (a : Int) (bs : List UInt8) : List UInt8 := if inW (8 * N) a bs.length then putL S a.toNat bs else S
def storeA (N : Nat) (A : List Bool) (a : Int) (m : Nat) : List Bool := if inW (8 * N) a m then clrL A a.toNat m else A
def flushU (N : Nat) (S T : List UInt8) (A : List Bool) (a n : Int) : List Bool := if inW (8 * N) a n then flushA S T A (lineB a.toNat n.toNat) else A
def evB (N : Nat) (l : Int) : Bool := decide (0 ≤ l ∧ l < ((N / 8 : Nat) : Int))
def evT (N : Nat) (S T : List UInt8) (l : Int) : List UInt8 := if evB N l then mixL S T (inC (8 * l.toNat) 8) else T
def evA (N : Nat) (A : List Bool) (l : Int) : List Bool := if evB N l then clrC A (8 * l.toNat) 8 else A
def loadM (N : Nat) (a n : Int) : Nat := if inW (8 * N) a n then n.toNat else 0
def loadL (N : Nat) (S : List UInt8) (a n : Int) : List UInt8 := if inW (8 * N) a n then (S.drop a.toNat).take n.toNat else []
section
variable {w : World} {x : MB} {N : Nat} {S T : List UInt8} {A : List Bool}
theorem pm_storeU (h : PM w x N S T A) {B : Option Addr} {m c : Nat} {bs : List UInt8} (hs : Sl w B m bs) (hB : 0 < m → ∀ p, B = some p → ¬ x.F p.block) (a : Int) :
    Calls Try.prog 22 #[.pointer (some ⟨x.p, 0, none⟩), .int .i64 a, .slice B m c] w fun e w' => e = .returned (.int .i64 (errV (inW (8 * N) a m))) ∧ PM w' x N (storeS N S a bs) T (storeA N A a m) ∧ Turn x.F w w' := by
  have hl := hs.1
  cases hin : inW (8 * N) a m with
  | true =>
    obtain ⟨h1, h2, h3⟩ := inW_iff.1 hin
    obtain ⟨b, rfl⟩ : ∃ b : Nat, a = (b : Int) := ⟨a.toNat, by omega⟩
    rw [storeS, hl, hin, storeA, hin]
    exact pm_store h hs hB b (by omega)
  | false =>
    rw [storeS, hl, hin, storeA, hin]
    refine (pm_store_no h B m c (by have := hs.2.1; omega) a hin).mono ?_
    rintro e w' ⟨rfl, rfl⟩
    exact ⟨rfl, h, Turn.refl _ _⟩
theorem rm_storeU (h : RM w x N S T A) {B : Option Addr} {m c : Nat} {bs : List UInt8} (hs : Sl w B m bs) (hB : 0 < m → ∀ p, B = some p → ¬ x.F p.block) (a : Int) :
    Calls Try.prog 24 #[.pointer (some ⟨x.p, 0, none⟩), .int .i64 a, .slice B m c] w fun e w' => e = .returned (.int .i64 (errV (inW (8 * N) a m))) ∧ RM w' x N (storeS N S a bs) T (storeA N A a m) ∧ Turn x.F w w' := by
  have hl := hs.1
  cases hin : inW (8 * N) a m with
  | true =>
    obtain ⟨h1, h2, h3⟩ := inW_iff.1 hin
    obtain ⟨b, rfl⟩ : ∃ b : Nat, a = (b : Int) := ⟨a.toNat, by omega⟩
    rw [storeS, hl, hin, storeA, hin]
    exact rm_store h hs hB b (by omega)
  | false =>
    rw [storeS, hl, hin, storeA, hin]
    refine (rm_store_no h B m c a hin).mono ?_
    rintro e w' ⟨rfl, rfl⟩
    exact ⟨rfl, h, Turn.refl _ _⟩
theorem pm_flushU (h : PM w x N S T A) (a n : Int) (hn : -9223372036854775808 ≤ n) (hn' : n ≤ 9223372036854775807) :
    Calls Try.prog 14 #[.pointer (some ⟨x.p, 0, none⟩), .int .i64 a, .int .i64 n] w fun e w' => e = .returned (.int .i64 (errV (inW (8 * N) a n))) ∧ PM w' x N S T (flushU N S T A a n) ∧ Turn x.F w w' := by
  cases hin : inW (8 * N) a n with
  | true =>
    obtain ⟨h1, h2, h3⟩ := inW_iff.1 hin
    obtain ⟨b, rfl⟩ : ∃ b : Nat, a = (b : Int) := ⟨a.toNat, by omega⟩
    obtain ⟨m, rfl⟩ : ∃ m : Nat, n = (m : Int) := ⟨n.toNat, by omega⟩
    rw [flushU, hin]
    exact pm_flush h b m (by omega)
  | false =>
    rw [flushU, hin]
    refine (pm_flush_no h a n hn hn' hin).mono ?_
    rintro e w' ⟨rfl, g⟩
    exact ⟨rfl, h.keep g, Turn.grow g _⟩
theorem rm_flushU (h : RM w x N S T A) (a n : Int) :
    Calls Try.prog 25 #[.pointer (some ⟨x.p, 0, none⟩), .int .i64 a, .int .i64 n] w fun e w' => e = .returned (.int .i64 (errV (inW (8 * N) a n))) ∧ RM w' x N S T (flushU N S T A a n) ∧ Turn x.F w w' := by
  cases hin : inW (8 * N) a n with
  | true =>
    obtain ⟨h1, h2, h3⟩ := inW_iff.1 hin
    obtain ⟨b, rfl⟩ : ∃ b : Nat, a = (b : Int) := ⟨a.toNat, by omega⟩
    obtain ⟨m, rfl⟩ : ∃ m : Nat, n = (m : Int) := ⟨n.toNat, by omega⟩
    rw [flushU, hin]
    exact rm_flush h b m (by omega)
  | false =>
    rw [flushU, hin]
    refine (rm_flush_no h a n hin).mono ?_
    rintro e w' ⟨rfl, rfl⟩
    exact ⟨rfl, h, Turn.refl _ _⟩
theorem pm_evictU (h : PM w x N S T A) (l : Int) :
    Calls Try.prog 27 #[.pointer (some ⟨x.p, 0, none⟩), .int .i64 l] w fun e w' => e = .returned (.int .i64 (errV (evB N l))) ∧ PM w' x N S (evT N S T l) (evA N A l) ∧ Turn x.F w w' := by
  cases hin : evB N l with
  | true =>
    have h1 := hin
    simp only [evB, decide_eq_true_eq] at h1
    obtain ⟨b, rfl⟩ : ∃ b : Nat, l = (b : Int) := ⟨l.toNat, by omega⟩
    rw [evT, evA, hin]
    exact pm_evict_yes h b (by omega)
  | false =>
    have h1 := hin
    simp only [evB, decide_eq_false_iff_not] at h1
    rw [evT, evA, hin]
    refine (pm_evict_no h l h1).mono ?_
    rintro e w' ⟨rfl, rfl⟩
    exact ⟨rfl, h, Turn.refl _ _⟩
theorem rm_evictU (h : RM w x N S T A) (l : Int) :
    Calls Try.prog 28 #[.pointer (some ⟨x.p, 0, none⟩), .int .i64 l] w fun e w' => e = .returned (.int .i64 (errV (evB N l))) ∧ RM w' x N S (evT N S T l) (evA N A l) ∧ Turn x.F w w' := by
  cases hin : evB N l with
  | true =>
    have h1 := hin
    simp only [evB, decide_eq_true_eq] at h1
    obtain ⟨b, rfl⟩ : ∃ b : Nat, l = (b : Int) := ⟨l.toNat, by omega⟩
    rw [evT, evA, hin]
    exact rm_evict_yes h b (by omega)
  | false =>
    have h1 := hin
    simp only [evB, decide_eq_false_iff_not] at h1
    rw [evT, evA, hin]
    refine (rm_evict_no h l h1).mono ?_
    rintro e w' ⟨rfl, rfl⟩
    exact ⟨rfl, h, Turn.refl _ _⟩
theorem pm_loadU (h : PM w x N S T A) (a n : Int) (hn : -9223372036854775808 ≤ n) (hn' : n ≤ 9223372036854775807) :
    Calls Try.prog 16 #[.pointer (some ⟨x.p, 0, none⟩), .int .i64 a, .int .i64 n] w fun e w' => ∃ A' c', e = .returned (.tuple #[.slice A' (loadM N a n) c', .int .i64 (errV (inW (8 * N) a n))]) ∧ Own w' w.heap.size A' (loadM N a n) c' (loadL N S a n) ∧ Grow w w' := by
  cases hin : inW (8 * N) a n with
  | true =>
    obtain ⟨h1, h2, h3⟩ := inW_iff.1 hin
    obtain ⟨b, rfl⟩ : ∃ b : Nat, a = (b : Int) := ⟨a.toNat, by omega⟩
    obtain ⟨m, rfl⟩ : ∃ m : Nat, n = (m : Int) := ⟨n.toNat, by omega⟩
    rw [loadM, loadL, hin]
    exact pm_load h b m (by omega)
  | false =>
    rw [loadM, loadL, hin]
    refine (pm_load_no h a n hn hn' hin).mono ?_
    rintro e w' ⟨rfl, rfl⟩
    exact ⟨none, 0, rfl, Own.nil _ _, Grow.refl _⟩
theorem rm_loadU (h : RM w x N S T A) (a n : Int) :
    Calls Try.prog 30 #[.pointer (some ⟨x.p, 0, none⟩), .int .i64 a, .int .i64 n, .bool false] w fun e w' => ∃ A' c', e = .returned (.tuple #[.slice A' (loadM N a n) c', .int .i64 (errV (inW (8 * N) a n))]) ∧ Own w' w.heap.size A' (loadM N a n) c' (loadL N S a n) ∧ Grow w w' := by
  cases hin : inW (8 * N) a n with
  | true =>
    obtain ⟨h1, h2, h3⟩ := inW_iff.1 hin
    obtain ⟨b, rfl⟩ : ∃ b : Nat, a = (b : Int) := ⟨a.toNat, by omega⟩
    obtain ⟨m, rfl⟩ : ∃ m : Nat, n = (m : Int) := ⟨n.toNat, by omega⟩
    rw [loadM, loadL, hin]
    exact rm_load h b m (by omega)
  | false =>
    rw [loadM, loadL, hin]
    refine (rm_load_no h a n hin).mono ?_
    rintro e w' ⟨rfl, rfl⟩
    exact ⟨none, 0, rfl, Own.nil _ _, Grow.refl _⟩
end
end Go.Proofs.Ytnhgfkahmflpgaa
