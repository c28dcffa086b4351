/- commonslaw03.like. The verbs of both memories, allowed or not, in one word each. A memory of 1024 bytes and a log in its last 512: what the verbs make of them, in plain words. A memory of 1024 bytes and a log in its last 512: what comes of the verbs, in plain words. No statement of the seat is proved here. -/
import Derived.Test.YtlinlmimakealaaZ07
import Derived.Test.YtlinlmimakealaaZ02
namespace Go.Proofs.Ytlinlmimakealaa
open Go.RowKit

/-- Both memories, alike. -/
def Pair (w : World) (base : Nat) (x y : MB) (N : Nat) (S T : List UInt8) (A : List Bool) : Prop :=
  PM w x N S T A ∧ RM w y N S T A ∧ (∀ k, x.F k → ¬ y.F k) ∧ (∀ k, x.F k → base ≤ k) ∧ (∀ k, y.F k → base ≤ k)
theorem Pair.keep {w w' : World} {base : Nat} {x y : MB} {N : Nat} {S T : List UInt8} {A : List Bool} (h : Pair w base x y N S T A) (g : Grow w w') : Pair w' base x y N S T A := ⟨h.1.keep g, h.2.1.keep g, h.2.2⟩
theorem RM.lastRB {w : World} {x : MB} {N : Nat} {S T : List UInt8} {A : List Bool} (h : RM w x N S T A) : RB w w.heap.size (some ⟨x.gt, 0, none⟩) T := by
  have hl := h.lenT
  obtain ⟨cs, ct, ca, h1, h3, h4, h5, h6, h7⟩ := h
  refine ⟨by rw [bvs_length]; omega, fun _ => ⟨x.gt, 0, rfl, h6.lt, fun j u hu => ?_⟩⟩
  rw [Nat.zero_add]
  exact h6.cell hu

end Go.Proofs.Ytlinlmimakealaa

namespace Go.Proofs.Ytlinlmimakealaa
open Go.RowKit

def errV (b : Bool) : Int := if b then 0 else 1
def storeS (N : Nat) (S : List UInt8) (a : Int) (bs : List UInt8) : List UInt8 := if inW (8 * N) a bs.length then putL S a.toNat bs else S
def storeA (N : Nat) (A : List Bool) (a : Int) (m : Nat) : List Bool := if inW (8 * N) a m then clrL A a.toNat m else A
def flushU (N : Nat) (S T : List UInt8) (A : List Bool) (a n : Int) : List Bool := if inW (8 * N) a n then flushA S T A (lineB a.toNat n.toNat) else A
def evB (N : Nat) (l : Int) : Bool := decide (0 ≤ l ∧ l < ((N / 8 : Nat) : Int))
def evT (N : Nat) (S T : List UInt8) (l : Int) : List UInt8 := if evB N l then mixL S T (inC (8 * l.toNat) 8) else T
def evA (N : Nat) (A : List Bool) (l : Int) : List Bool := if evB N l then clrC A (8 * l.toNat) 8 else A
def loadM (N : Nat) (a n : Int) : Nat := if inW (8 * N) a n then n.toNat else 0
def loadL (N : Nat) (S : List UInt8) (a n : Int) : List UInt8 := if inW (8 * N) a n then (S.drop a.toNat).take n.toNat else []
section
variable {w : World} {x : MB} {N : Nat} {S T : List UInt8} {A : List Bool}
theorem pm_storeU (h : PM w x N S T A) {B : Option Addr} {m c : Nat} {bs : List UInt8} (hs : Sl w B m bs) (hB : 0 < m → ∀ p, B = some p → ¬ x.F p.block) (a : Int) :
    Calls Try.prog 17 #[.pointer (some ⟨x.p, 0, none⟩), .int .i64 a, .slice B m c] w fun e w' => e = .returned (.int .i64 (errV (inW (8 * N) a m))) ∧ PM w' x N (storeS N S a bs) T (storeA N A a m) ∧ Turn x.F w w' := by
  have hl := hs.1
  cases hin : inW (8 * N) a m with
  | true =>
    obtain ⟨h1, h2, h3⟩ := inW_iff.1 hin
    obtain ⟨b, rfl⟩ : ∃ b : Nat, a = (b : Int) := ⟨a.toNat, by omega⟩
    rw [storeS, hl, hin, storeA, hin]
    exact pm_store h hs hB b (by omega)
  | false =>
    rw [storeS, hl, hin, storeA, hin]
    refine (pm_store_no h B m c (by have := hs.2.1; omega) a hin).mono ?_
    rintro e w' ⟨rfl, rfl⟩
    exact ⟨rfl, h, Turn.refl _ _⟩
theorem rm_storeU (h : RM w x N S T A) {B : Option Addr} {m c : Nat} {bs : List UInt8} (hs : Sl w B m bs) (hB : 0 < m → ∀ p, B = some p → ¬ x.F p.block) (a : Int) :
    Calls Try.prog 51 #[.pointer (some ⟨x.p, 0, none⟩), .int .i64 a, .slice B m c] w fun e w' => e = .returned (.int .i64 (errV (inW (8 * N) a m))) ∧ RM w' x N (storeS N S a bs) T (storeA N A a m) ∧ Turn x.F w w' := by
  have hl := hs.1
  cases hin : inW (8 * N) a m with
  | true =>
    obtain ⟨h1, h2, h3⟩ := inW_iff.1 hin
    obtain ⟨b, rfl⟩ : ∃ b : Nat, a = (b : Int) := ⟨a.toNat, by omega⟩
    rw [storeS, hl, hin, storeA, hin]
    exact rm_store h hs hB b (by omega)
  | false =>
    rw [storeS, hl, hin, storeA, hin]
    refine (rm_store_no h B m c a hin).mono ?_
    rintro e w' ⟨rfl, rfl⟩
    exact ⟨rfl, h, Turn.refl _ _⟩
theorem pm_flushU (h : PM w x N S T A) (a n : Int) (hn : -9223372036854775808 ≤ n) (hn' : n ≤ 9223372036854775807) :
    Calls Try.prog 18 #[.pointer (some ⟨x.p, 0, none⟩), .int .i64 a, .int .i64 n] w fun e w' => e = .returned (.int .i64 (errV (inW (8 * N) a n))) ∧ PM w' x N S T (flushU N S T A a n) ∧ Turn x.F w w' := by
  cases hin : inW (8 * N) a n with
  | true =>
    obtain ⟨h1, h2, h3⟩ := inW_iff.1 hin
    obtain ⟨b, rfl⟩ : ∃ b : Nat, a = (b : Int) := ⟨a.toNat, by omega⟩
    obtain ⟨m, rfl⟩ : ∃ m : Nat, n = (m : Int) := ⟨n.toNat, by omega⟩
    rw [flushU, hin]
    exact pm_flush h b m (by omega)
  | false =>
    rw [flushU, hin]
    refine (pm_flush_no h a n hn hn' hin).mono ?_
    rintro e w' ⟨rfl, g⟩
    exact ⟨rfl, h.keep g, Turn.grow g _⟩
theorem rm_flushU (h : RM w x N S T A) (a n : Int) :
    Calls Try.prog 79 #[.pointer (some ⟨x.p, 0, none⟩), .int .i64 a, .int .i64 n] w fun e w' => e = .returned (.int .i64 (errV (inW (8 * N) a n))) ∧ RM w' x N S T (flushU N S T A a n) ∧ Turn x.F w w' := by
  cases hin : inW (8 * N) a n with
  | true =>
    obtain ⟨h1, h2, h3⟩ := inW_iff.1 hin
    obtain ⟨b, rfl⟩ : ∃ b : Nat, a = (b : Int) := ⟨a.toNat, by omega⟩
    obtain ⟨m, rfl⟩ : ∃ m : Nat, n = (m : Int) := ⟨n.toNat, by omega⟩
    rw [flushU, hin]
    exact rm_flush h b m (by omega)
  | false =>
    rw [flushU, hin]
    refine (rm_flush_no h a n hin).mono ?_
    rintro e w' ⟨rfl, rfl⟩
    exact ⟨rfl, h, Turn.refl _ _⟩
theorem pm_loadU (h : PM w x N S T A) (a n : Int) (hn : -9223372036854775808 ≤ n) (hn' : n ≤ 9223372036854775807) :
    Calls Try.prog 14 #[.pointer (some ⟨x.p, 0, none⟩), .int .i64 a, .int .i64 n] w fun e w' => ∃ A' c', e = .returned (.tuple #[.slice A' (loadM N a n) c', .int .i64 (errV (inW (8 * N) a n))]) ∧ Own w' w.heap.size A' (loadM N a n) c' (loadL N S a n) ∧ Grow w w' := by
  cases hin : inW (8 * N) a n with
  | true =>
    obtain ⟨h1, h2, h3⟩ := inW_iff.1 hin
    obtain ⟨b, rfl⟩ : ∃ b : Nat, a = (b : Int) := ⟨a.toNat, by omega⟩
    obtain ⟨m, rfl⟩ : ∃ m : Nat, n = (m : Int) := ⟨n.toNat, by omega⟩
    rw [loadM, loadL, hin]
    exact pm_load h b m (by omega)
  | false =>
    rw [loadM, loadL, hin]
    refine (pm_load_no h a n hn hn' hin).mono ?_
    rintro e w' ⟨rfl, rfl⟩
    exact ⟨none, 0, rfl, Own.nil _ _, Grow.refl _⟩
theorem rm_loadU (h : RM w x N S T A) (a n : Int) :
    Calls Try.prog 72 #[.pointer (some ⟨x.p, 0, none⟩), .int .i64 a, .int .i64 n, .bool false] w fun e w' => ∃ A' c', e = .returned (.tuple #[.slice A' (loadM N a n) c', .int .i64 (errV (inW (8 * N) a n))]) ∧ Own w' w.heap.size A' (loadM N a n) c' (loadL N S a n) ∧ Grow w w' := by
  cases hin : inW (8 * N) a n with
  | true =>
    obtain ⟨h1, h2, h3⟩ := inW_iff.1 hin
    obtain ⟨b, rfl⟩ : ∃ b : Nat, a = (b : Int) := ⟨a.toNat, by omega⟩
    obtain ⟨m, rfl⟩ : ∃ m : Nat, n = (m : Int) := ⟨n.toNat, by omega⟩
    rw [loadM, loadL, hin]
    exact rm_load h b m (by omega)
  | false =>
    rw [loadM, loadL, hin]
    refine (rm_load_no h a n hin).mono ?_
    rintro e w' ⟨rfl, rfl⟩
    exact ⟨none, 0, rfl, Own.nil _ _, Grow.refl _⟩
end
end Go.Proofs.Ytlinlmimakealaa

namespace Go.Proofs.Ytlinlmimakealaa

structure MS where
  S : List UInt8
  T : List UInt8
  A : List Bool
def MS.store (s : MS) (a : Int) (bs : List UInt8) : MS := ⟨storeS 128 s.S a bs, s.T, storeA 128 s.A a bs.length⟩
def MS.flush (s : MS) (a n : Int) : MS := ⟨s.S, s.T, flushU 128 s.S s.T s.A a n⟩
def MS.fence (s : MS) : MS := ⟨s.S, mixL s.S s.T fun k => s.A.getD k false, List.replicate 128 false⟩
def MS.mixed (s : MS) (pk : List Int) : List UInt8 := mixL s.S s.T (crashB (dirtyL s.S s.T 128) pk (dirtyL s.S s.T 128).length)
def MS.crash (s : MS) (pk : List Int) : MS := ⟨s.mixed pk, s.mixed pk, List.replicate 128 false⟩
def MS.keep (s : MS) (a : Int) (bs : List UInt8) : MS := ((s.store a bs).flush a bs.length).fence
def MS.wipe (s : MS) : MS := s.keep 512 (List.replicate 8 0)
def MS.patch (s : MS) (p : PT) : MS := if inW 1024 p.pos p.dat.size then (s.store p.pos p.txt).flush p.pos p.dat.size else s
def MS.patches (s : MS) (L : List PT) : MS := L.foldl MS.patch s
def lgE (S : List UInt8) : Nat := if 504 < getN S 512 8 then 0 else (getN S 512 8).toNat
def lgB (S : List UInt8) : List UInt8 := (S.drop 520).take (lgE S)
def lgL (S : List UInt8) : List (List PT) := rcL (lgB S)
def lgU (S : List UInt8) : Nat := rcU (lgB S)
def MS.redone (s : MS) (R : List (List PT)) : MS := R.foldl MS.patches s
def MS.redo (s : MS) : MS := (s.redone (lgL s.S)).fence.wipe
def apE (S : List UInt8) (L : List PT) : Int := if mayP L then (if 504 < lgU S + (encP L).length then 5 else 0) else 1
def MS.append (s : MS) (L : List PT) : MS := if apE s.S L = 0 then (s.keep ((520 + lgU s.S : Nat) : Int) (encP L)).keep 512 (leB (lgU s.S + (encP L).length) 8) else s

theorem lgE_le (S : List UInt8) : lgE S ≤ 504 := by
  unfold lgE
  split
  · omega
  · omega
theorem lgB_length {S : List UInt8} (h : S.length = 1024) : (lgB S).length = lgE S := by
  have := lgE_le S
  rw [lgB, List.length_take, List.length_drop, h]; omega
theorem lgU_le {S : List UInt8} : lgU S ≤ 504 := by
  have := (rcU_bound (lgB S)).1
  have h2 := lgE_le S
  have h3 : (lgB S).length ≤ lgE S := by rw [lgB]; exact List.length_take_le _ _
  unfold lgU; omega
/-- What a load of eight bytes at the log's head tells. -/
theorem lg_head {S : List UInt8} (h : S.length = 1024) : getN ((S.drop 512).take 8) 0 8 = getN S 512 8 := by
  have e1 : ((S.drop 512).take 8).length = 8 := by rw [List.length_take, List.length_drop, h]; rfl
  have h1 : isW 8 = true := by decide
  unfold getN getO
  rw [e1, h]
  simp [h1, List.take_take]
theorem MS.store_S (s : MS) (a : Int) (bs : List UInt8) : (s.store a bs).S.length = s.S.length := by
  unfold MS.store storeS
  split
  · rw [putL_length]
  · rfl
end Go.Proofs.Ytlinlmimakealaa

namespace Go.Proofs.Ytlinlmimakealaa

theorem putL_eq (bs : List UInt8) : ∀ (S : List UInt8) (i : Nat), i + bs.length ≤ S.length → putL S i bs = S.take i ++ (bs ++ S.drop (i + bs.length)) := by
  induction bs with
  | nil => intro S i _; simp [putL]
  | cons u bs ih =>
    intro S i h
    simp only [List.length_cons] at h
    rw [putL, ih _ _ (by rw [List.length_set]; omega), List.drop_set_of_lt (by omega), show i + 1 + bs.length = i + (u :: bs).length by simp; omega]
    have e : (S.set i u).take (i + 1) = S.take i ++ [u] := by
      rw [List.take_add_one, List.take_set_of_le (Nat.le_refl _), List.getElem?_set_self (by omega)]; rfl
    rw [e]
    simp
theorem putL_get (bs : List UInt8) (S : List UInt8) (i j : Nat) (h : i + bs.length ≤ S.length) : (putL S i bs).getD j 0 = if i ≤ j ∧ j < i + bs.length then bs.getD (j - i) 0 else S.getD j 0 := by
  rw [putL_eq bs S i h]
  simp only [List.getD_eq_getElem?_getD]
  by_cases h1 : j < i
  · rw [List.getElem?_append_left (by rw [List.length_take]; omega), List.getElem?_take_of_lt h1, if_neg (by omega)]
  · rw [List.getElem?_append_right (by rw [List.length_take]; omega), List.length_take, Nat.min_eq_left (by omega)]
    by_cases h2 : j < i + bs.length
    · rw [List.getElem?_append_left (by omega), if_pos (by omega)]
    · rw [List.getElem?_append_right (by omega), if_neg (by omega), List.getElem?_drop, show i + bs.length + (j - i - bs.length) = j by omega]
theorem clrL_get (A : List Bool) (i n k : Nat) (h : (i + n - 1) / 8 < A.length ∨ n = 0) : (clrL A i n).getD k false = if n ≠ 0 ∧ i / 8 ≤ k ∧ k ≤ (i + n - 1) / 8 then false else A.getD k false := by
  induction n with
  | zero => simp [clrL]
  | succ n ih =>
    have h' : (i + n) / 8 < A.length := by rcases h with h | h; exact h; omega
    rw [clrL, getD_set _ _ _ _ (by rw [clrL_length]; exact h')]
    by_cases e : k = (i + n) / 8
    · rw [if_pos e, if_pos (by omega)]
    · rw [if_neg e, ih (by by_cases q : n = 0; exact .inr q; exact .inl (by omega))]
      by_cases q : n = 0
      · subst q; rw [if_neg (by omega), if_neg (by omega)]
      · by_cases q2 : i / 8 ≤ k ∧ k ≤ (i + n - 1) / 8
        · rw [if_pos ⟨q, q2⟩, if_pos (by omega)]
        · rw [if_neg (by omega), if_neg (by omega)]
theorem dirtyB_is {S T : List UInt8} {k : Nat} : dirtyB S T k = false ↔ ∀ j, 8 * k ≤ j → j < 8 * k + 8 → S.getD j 0 = T.getD j 0 := by
  constructor
  · intro h j h1 h2
    refine Decidable.byContradiction fun q => ?_
    unfold dirtyB at h
    have := List.any_eq_false.1 h (j - 8 * k) (by simp; omega)
    rw [show 8 * k + (j - 8 * k) = j by omega] at this
    simp at this
    exact q this
  · intro h
    unfold dirtyB
    rw [List.any_eq_false]
    intro j hj
    have := h (8 * k + j) (by omega) (by simp at hj; omega)
    rw [this]; simp

/-- The lengths are right; what is seen and does not last is on its way. -/
structure MS.ok (s : MS) : Prop where
  S : s.S.length = 1024
  T : s.T.length = 1024
  A : s.A.length = 128
def MS.cov (s : MS) : Prop := ∀ k, k < 128 → dirtyB s.S s.T k = true → s.A.getD k false = true
/-- All that is seen lasts, and nothing is on its way. -/
def MS.still (s : MS) : Prop := s.S = s.T
theorem MS.still_cov {s : MS} (h : s.still) : s.cov := by
  intro k _ hd
  rw [dirtyB_is.2 (fun j _ _ => by rw [h])] at hd
  cases hd
theorem MS.ok.ok_store {s : MS} (h : s.ok) (a : Int) (bs : List UInt8) : (s.store a bs).ok := by
  refine ⟨by rw [MS.store_S]; exact h.S, h.T, ?_⟩
  unfold MS.store storeA
  split
  · rw [clrL_length]; exact h.A
  · exact h.A
theorem MS.ok.ok_flush {s : MS} (h : s.ok) (a n : Int) : (s.flush a n).ok := by
  refine ⟨h.S, h.T, ?_⟩
  unfold MS.flush flushU
  split
  · rw [flushA_length]; exact h.A
  · exact h.A
theorem MS.ok.ok_fence {s : MS} (h : s.ok) : s.fence.ok := ⟨h.S, by rw [MS.fence, mixL_length]; exact h.T, by rw [MS.fence, List.length_replicate]⟩
theorem MS.ok.ok_keep {s : MS} (h : s.ok) (a : Int) (bs : List UInt8) : (s.keep a bs).ok := ((h.ok_store a bs).ok_flush a bs.length).ok_fence
theorem MS.ok.ok_crash {s : MS} (h : s.ok) (pk : List Int) : (s.crash pk).ok := ⟨by rw [MS.crash, MS.mixed, mixL_length]; exact h.T, by rw [MS.crash, MS.mixed, mixL_length]; exact h.T, by rw [MS.crash, List.length_replicate]⟩
theorem MS.fence_still {s : MS} (h : s.ok) (hc : s.cov) : s.fence.still := by
  show s.S = mixL s.S s.T fun k => s.A.getD k false
  refine ext_getD (by rw [mixL_length, h.S, h.T]) fun j hj => ?_
  rw [h.S] at hj
  rw [mixL_get _ _ _ _ (by rw [h.T]; exact hj)]
  cases hA : s.A.getD (j / 8) false with
  | true => rfl
  | false =>
    rw [if_neg (by simp)]
    cases hd : dirtyB s.S s.T (j / 8) with
    | true => rw [hc (j / 8) (by omega) hd] at hA; cases hA
    | false => exact dirtyB_is.1 hd j (by omega) (by omega)
theorem MS.crash_still (s : MS) (pk : List Int) : (s.crash pk).still := rfl
theorem MS.store_in {s : MS} {a : Int} {bs : List UInt8} (h : inW 1024 a bs.length = true) : s.store a bs = ⟨putL s.S a.toNat bs, s.T, clrL s.A a.toNat bs.length⟩ := by
  unfold MS.store storeS storeA
  rw [show inW (8 * 128) a bs.length = true from h]
  rfl
theorem MS.store_out {s : MS} {a : Int} {bs : List UInt8} (h : inW 1024 a bs.length = false) : s.store a bs = s := by
  unfold MS.store storeS storeA
  rw [show inW (8 * 128) a bs.length = false from h]
  rfl
theorem MS.flush_in {s : MS} {a n : Int} (h : inW 1024 a n = true) : s.flush a n = ⟨s.S, s.T, flushA s.S s.T s.A (lineB a.toNat n.toNat)⟩ := by
  unfold MS.flush flushU
  rw [show inW (8 * 128) a n = true from h]
  rfl
theorem MS.flush_out {s : MS} {a n : Int} (h : inW 1024 a n = false) : s.flush a n = s := by
  unfold MS.flush flushU
  rw [show inW (8 * 128) a n = false from h]
  rfl
/-- What is stored and flushed is on its way. -/
theorem MS.put_cov {s : MS} (h : s.ok) (hc : s.cov) {a : Int} {bs : List UInt8} (hin : inW 1024 a bs.length = true) : ((s.store a bs).flush a bs.length).cov := by
  obtain ⟨h1, -, h3⟩ := inW_iff.1 hin
  obtain ⟨i, rfl⟩ : ∃ i : Nat, a = (i : Int) := ⟨a.toNat, by omega⟩
  rw [MS.store_in hin, MS.flush_in hin]
  intro k hk hd
  have hS := h.S
  have hA := h.A
  simp only [Int.toNat_natCast] at hd ⊢
  rw [flushA_get _ _ _ _ _ (by rw [clrL_length, hA]; exact hk), hd, Bool.and_true]
  have hpos : bs.length = 0 ∨ 0 < bs.length := by omega
  rw [clrL_get _ _ _ _ (by rw [hA]; rcases hpos with q | q; exact .inr q; exact .inl (by omega))]
  by_cases hin2 : bs.length ≠ 0 ∧ i / 8 ≤ k ∧ k ≤ (i + bs.length - 1) / 8
  · rw [if_pos hin2, Bool.false_or]
    simp only [lineB, decide_eq_true_eq]
    omega
  · rw [if_neg hin2]
    rw [hc k hk, Bool.true_or]
    cases hd2 : dirtyB s.S s.T k with
    | true => rfl
    | false =>
      rw [dirtyB_is.2] at hd
      · cases hd
      intro j j1 j2
      rw [putL_get _ _ _ _ (by rw [hS]; omega), if_neg (by omega)]
      exact dirtyB_is.1 hd2 j j1 j2
theorem MS.keep_still {s : MS} (h : s.ok) (hc : s.cov) (a : Int) (bs : List UInt8) : (s.keep a bs).still := by
  cases hin : inW 1024 a bs.length with
  | true => exact MS.fence_still ((h.ok_store a bs).ok_flush a bs.length) (MS.put_cov h hc hin)
  | false =>
    unfold MS.keep
    rw [MS.store_out hin, MS.flush_out hin]
    exact MS.fence_still h hc
theorem MS.keep_S {s : MS} {a : Int} {bs : List UInt8} (hin : inW 1024 a bs.length = true) : (s.keep a bs).S = putL s.S a.toNat bs := by
  unfold MS.keep
  rw [MS.store_in hin]
  rfl
theorem MS.patch_cov {s : MS} (h : s.ok) (hc : s.cov) (p : PT) : (s.patch p).ok ∧ (s.patch p).cov := by
  unfold MS.patch
  cases hin : inW 1024 p.pos p.dat.size with
  | true =>
    rw [if_pos rfl, ← PT.txt_length p]
    exact ⟨(h.ok_store _ _).ok_flush _ _, MS.put_cov h hc (by rw [PT.txt_length]; exact hin)⟩
  | false => rw [if_neg (by simp)]; exact ⟨h, hc⟩
theorem MS.patches_cov (L : List PT) : ∀ {s : MS}, s.ok → s.cov → (s.patches L).ok ∧ (s.patches L).cov := by
  induction L with
  | nil => intro s h hc; exact ⟨h, hc⟩
  | cons p L ih => intro s h hc; exact ih (MS.patch_cov h hc p).1 (MS.patch_cov h hc p).2
theorem MS.redone_cov (R : List (List PT)) : ∀ {s : MS}, s.ok → s.cov → (s.redone R).ok ∧ (s.redone R).cov := by
  induction R with
  | nil => intro s h hc; exact ⟨h, hc⟩
  | cons L R ih => intro s h hc; exact ih (MS.patches_cov L h hc).1 (MS.patches_cov L h hc).2

/-- Patches laid over bytes. -/
def patS (S : List UInt8) (p : PT) : List UInt8 := if inW 1024 p.pos p.dat.size then putL S p.pos.toNat p.txt else S
theorem patch_S (s : MS) (p : PT) : (s.patch p).S = patS s.S p := by
  unfold MS.patch patS
  cases hin : inW 1024 p.pos p.dat.size with
  | true => rw [if_pos rfl, if_pos rfl, MS.store_in (by rw [PT.txt_length]; exact hin)]; rfl
  | false => rw [if_neg (by simp), if_neg (by simp)]
theorem patches_S (L : List PT) : ∀ s : MS, (s.patches L).S = L.foldl patS s.S := by
  induction L with
  | nil => intro s; rfl
  | cons p L ih => intro s; show ((s.patch p).patches L).S = _; rw [ih, patch_S]; rfl
theorem redone_S (R : List (List PT)) : ∀ s : MS, (s.redone R).S = R.flatten.foldl patS s.S := by
  induction R with
  | nil => intro s; rfl
  | cons L R ih => intro s; show ((s.patches L).redone R).S = _; rw [ih, patches_S]; simp
theorem redo_is {s : MS} (h : s.ok) (hc : s.cov) : s.redo.ok ∧ s.redo.still ∧ s.redo.S = putL ((lgL s.S).flatten.foldl patS s.S) 512 (List.replicate 8 0) := by
  have h1 := MS.redone_cov (lgL s.S) h hc
  have h2 := MS.ok.ok_fence h1.1
  have h3 := MS.still_cov (MS.fence_still h1.1 h1.2)
  refine ⟨MS.ok.ok_keep h2 _ _, MS.keep_still h2 h3 _ _, ?_⟩
  rw [MS.redo, MS.wipe, MS.keep_S (by simp [inW]), ← redone_S]
  rfl
theorem lgE_wiped {S : List UInt8} (h : S.length = 1024) : lgE (putL S 512 (List.replicate 8 0)) = 0 := by
  have e := putL_eq (List.replicate 8 0) S 512 (by simp [h])
  have g := get_mid (bs := putL S 512 (List.replicate 8 0)) (p := S.take 512) (q := S.drop 520) (n := 0) (a := 512) (wd := 8) (by rw [e]; rfl) (by simp [h]) (by decide) (by decide)
  have g1 : getN (putL S 512 (List.replicate 8 0)) 512 8 = 0 := g.1
  rw [lgE, g1]
  rfl

/-- A record that is appended is the last of the log's. -/
theorem app_log {S : List UInt8} {L : List PT} (h : S.length = 1024) (hm : mayP L = true) (hU : lgU S + (encP L).length ≤ 504) :
    lgL (putL (putL S (520 + lgU S) (encP L)) 512 (leB (lgU S + (encP L).length) 8)) = lgL S ++ [L] ∧ lgU (putL (putL S (520 + lgU S) (encP L)) 512 (leB (lgU S + (encP L).length) 8)) = lgU S + (encP L).length := by
  obtain ⟨U, hUU⟩ : ∃ U, U = lgU S := ⟨_, rfl⟩
  obtain ⟨b, hb⟩ : ∃ b, b = encP L := ⟨_, rfl⟩
  rw [← hUU, ← hb] at hU ⊢
  have hE := lgB_length h
  have hUE : U ≤ lgE S := by have := (rcU_bound (lgB S)).1; rw [hE] at this; rw [hUU]; exact this
  have hE5 := lgE_le S
  have e1 := putL_eq b S (520 + U) (by omega)
  have l1 : (putL S (520 + U) b).length = 1024 := by rw [putL_length]; exact h
  have e2 := putL_eq (leB (U + b.length) 8) (putL S (520 + U) b) 512 (by rw [leB_length]; omega)
  rw [leB_length] at e2
  obtain ⟨S2, hS2⟩ : ∃ S2, S2 = putL (putL S (520 + U) b) 512 (leB (U + b.length) 8) := ⟨_, rfl⟩
  rw [← hS2] at e2 ⊢
  have g := get_mid (bs := S2) (p := (putL S (520 + U) b).take 512) (q := (putL S (520 + U) b).drop 520) (n := ((U + b.length : Nat) : Int)) (a := 512) (wd := 8) (by rw [e2]; rfl) (by rw [List.length_take]; omega) (by simp [fitsB]; omega) (by omega)
  have g1 : getN S2 512 8 = ((U + b.length : Nat) : Int) := g.1
  have hEE : lgE S2 = U + b.length := by
    rw [lgE, g1, if_neg (by omega)]; omega
  have hd : S2.drop 520 = (putL S (520 + U) b).drop 520 := by
    rw [e2, ← List.append_assoc, List.drop_left' (by rw [List.length_append, List.length_take, leB_length]; omega)]
  have hB : lgB S2 = (lgB S).take U ++ b := by
    rw [lgB, hEE, hd, e1, List.drop_append_of_le_length (by rw [List.length_take]; omega), List.drop_take, show 520 + U - 520 = U by omega, ← List.append_assoc, List.take_left' (by rw [List.length_append, List.length_take, List.length_drop]; omega), lgB, List.take_take, Nat.min_eq_left hUE]
  have r1 := rc_app _ (lgB S) b (Nat.le_refl _)
  have r2 := rc_rec hm []
  rw [← hb, List.append_nil, rc_nil.1, rc_nil.2] at r2
  have hU2 : rcU (lgB S) = U := by rw [hUU]; rfl
  rw [hU2] at r1
  refine ⟨?_, ?_⟩
  · rw [lgL, hB, r1.1, r2.1]; rfl
  · rw [lgU, hB, r1.2, r2.2]; rfl
theorem apE_iff {S : List UInt8} {L : List PT} : apE S L = 0 ↔ mayP L = true ∧ lgU S + (encP L).length ≤ 504 := by
  unfold apE
  cases mayP L with
  | true =>
    rw [if_pos rfl]
    by_cases h : 504 < lgU S + (encP L).length
    · rw [if_pos h]; simp; omega
    · rw [if_neg h]; simp; omega
  | false => simp
theorem append_is {s : MS} (h : s.ok) (hc : s.cov) {L : List PT} (hE : apE s.S L = 0) : (s.append L).ok ∧ (s.append L).still ∧ lgL (s.append L).S = lgL s.S ++ [L] ∧ (s.append L).S = putL (putL s.S (520 + lgU s.S) (encP L)) 512 (leB (lgU s.S + (encP L).length) 8) := by
  obtain ⟨h1, h2⟩ := apE_iff.1 hE
  have hin1 : inW 1024 ((520 + lgU s.S : Nat) : Int) (encP L).length = true := by simp [inW]; omega
  have hin2 : inW 1024 512 ((leB (lgU s.S + (encP L).length) 8).length : Nat) = true := by rw [leB_length]; simp [inW]
  have e1 : (s.append L).S = putL (putL s.S (520 + lgU s.S) (encP L)) 512 (leB (lgU s.S + (encP L).length) 8) := by
    rw [MS.append, if_pos hE, MS.keep_S hin2, MS.keep_S hin1]; rfl
  refine ⟨?_, ?_, ?_, e1⟩
  · rw [MS.append, if_pos hE]; exact MS.ok.ok_keep (MS.ok.ok_keep h _ _) _ _
  · rw [MS.append, if_pos hE]; exact MS.keep_still (MS.ok.ok_keep h _ _) (MS.still_cov (MS.keep_still h hc _ _)) _ _
  · rw [e1]; exact (app_log h.S h1 h2).1
end Go.Proofs.Ytlinlmimakealaa
