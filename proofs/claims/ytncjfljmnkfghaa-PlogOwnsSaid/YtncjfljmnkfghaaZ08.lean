/- A memory of 1024 bytes and a log in its last 512: what the verbs make of them, in plain words. A memory of 1024 bytes and a log in its last 512: what comes of the verbs, in plain words. append at bytes: a text's bytes, noughts, two bytes. Facts on words of bits, as the walks of numbers meet them. No statement of the seat is proved here. -/
import Derived.Test.YtncjfljmnkfghaaZ02
import Derived.Test.YtncjfljmnkfghaaZ07
import Derived.Lib.AppendStr
import Derived.Test.YtncjfljmnkfghaaZ01
namespace Go.Proofs.Ytncjfljmnkfghaa

structure MS where
  S : List UInt8
  T : List UInt8
  A : List Bool
def MS.store (s : MS) (a : Int) (bs : List UInt8) : MS := ⟨storeS 128 s.S a bs, s.T, storeA 128 s.A a bs.length⟩
def MS.flush (s : MS) (a n : Int) : MS := ⟨s.S, s.T, flushU 128 s.S s.T s.A a n⟩
def MS.fence (s : MS) : MS := ⟨s.S, mixL s.S s.T fun k => s.A.getD k false, List.replicate 128 false⟩
def MS.mixed (s : MS) (pk : List Int) : List UInt8 := mixL s.S s.T (crashB (dirtyL s.S s.T 128) pk (dirtyL s.S s.T 128).length)
def MS.crash (s : MS) (pk : List Int) : MS := ⟨s.mixed pk, s.mixed pk, List.replicate 128 false⟩
def MS.keep (s : MS) (a : Int) (bs : List UInt8) : MS := ((s.store a bs).flush a bs.length).fence
def MS.wipe (s : MS) : MS := s.keep 512 (List.replicate 8 0)
def MS.patch (s : MS) (p : PT) : MS := if inW 1024 p.pos p.dat.size then (s.store p.pos p.txt).flush p.pos p.dat.size else s
def MS.patches (s : MS) (L : List PT) : MS := L.foldl MS.patch s
def lgE (S : List UInt8) : Nat := if 504 < getN S 512 8 then 0 else (getN S 512 8).toNat
def lgB (S : List UInt8) : List UInt8 := (S.drop 520).take (lgE S)
def lgL (S : List UInt8) : List (List PT) := rcL (lgB S)
def lgU (S : List UInt8) : Nat := rcU (lgB S)
def MS.redone (s : MS) (R : List (List PT)) : MS := R.foldl MS.patches s
def MS.redo (s : MS) : MS := (s.redone (lgL s.S)).fence.wipe
def apE (S : List UInt8) (L : List PT) : Int := if mayP L then (if 504 < lgU S + (encP L).length then 5 else 0) else 1
def MS.append (s : MS) (L : List PT) : MS := if apE s.S L = 0 then (s.keep ((520 + lgU s.S : Nat) : Int) (encP L)).keep 512 (leB (lgU s.S + (encP L).length) 8) else s

theorem lgE_le (S : List UInt8) : lgE S ≤ 504 := by
  unfold lgE
  split
  · omega
  · omega
theorem lgB_length {S : List UInt8} (h : S.length = 1024) : (lgB S).length = lgE S := by
  have := lgE_le S
  rw [lgB, List.length_take, List.length_drop, h]; omega
theorem lgU_le {S : List UInt8} : lgU S ≤ 504 := by
  have := (rcU_bound (lgB S)).1
  have h2 := lgE_le S
  have h3 : (lgB S).length ≤ lgE S := by rw [lgB]; exact List.length_take_le _ _
  unfold lgU; omega
/-- What a load of eight bytes at the log's head tells. -/
theorem lg_head {S : List UInt8} (h : S.length = 1024) : getN ((S.drop 512).take 8) 0 8 = getN S 512 8 := by
  have e1 : ((S.drop 512).take 8).length = 8 := by rw [List.length_take, List.length_drop, h]; rfl
  have h1 : isW 8 = true := by decide
  unfold getN getO
  rw [e1, h]
  simp [h1, List.take_take]
theorem MS.store_S (s : MS) (a : Int) (bs : List UInt8) : (s.store a bs).S.length = s.S.length := by
  unfold MS.store storeS
  split
  · rw [putL_length]
  · rfl
end Go.Proofs.Ytncjfljmnkfghaa

namespace Go.Proofs.Ytncjfljmnkfghaa

theorem putL_eq (bs : List UInt8) : ∀ (S : List UInt8) (i : Nat), i + bs.length ≤ S.length → putL S i bs = S.take i ++ (bs ++ S.drop (i + bs.length)) := by
  induction bs with
  | nil => intro S i _; simp [putL]
  | cons u bs ih =>
    intro S i h
    simp only [List.length_cons] at h
    rw [putL, ih _ _ (by rw [List.length_set]; omega), List.drop_set_of_lt (by omega), show i + 1 + bs.length = i + (u :: bs).length by simp; omega]
    have e : (S.set i u).take (i + 1) = S.take i ++ [u] := by
      rw [List.take_add_one, List.take_set_of_le (Nat.le_refl _), List.getElem?_set_self (by omega)]; rfl
    rw [e]
    simp
theorem putL_get (bs : List UInt8) (S : List UInt8) (i j : Nat) (h : i + bs.length ≤ S.length) : (putL S i bs).getD j 0 = if i ≤ j ∧ j < i + bs.length then bs.getD (j - i) 0 else S.getD j 0 := by
  rw [putL_eq bs S i h]
  simp only [List.getD_eq_getElem?_getD]
  by_cases h1 : j < i
  · rw [List.getElem?_append_left (by rw [List.length_take]; omega), List.getElem?_take_of_lt h1, if_neg (by omega)]
  · rw [List.getElem?_append_right (by rw [List.length_take]; omega), List.length_take, Nat.min_eq_left (by omega)]
    by_cases h2 : j < i + bs.length
    · rw [List.getElem?_append_left (by omega), if_pos (by omega)]
    · rw [List.getElem?_append_right (by omega), if_neg (by omega), List.getElem?_drop, show i + bs.length + (j - i - bs.length) = j by omega]
theorem clrL_get (A : List Bool) (i n k : Nat) (h : (i + n - 1) / 8 < A.length ∨ n = 0) : (clrL A i n).getD k false = if n ≠ 0 ∧ i / 8 ≤ k ∧ k ≤ (i + n - 1) / 8 then false else A.getD k false := by
  induction n with
  | zero => simp [clrL]
  | succ n ih =>
    have h' : (i + n) / 8 < A.length := by rcases h with h | h; exact h; omega
    rw [clrL, getD_set _ _ _ _ (by rw [clrL_length]; exact h')]
    by_cases e : k = (i + n) / 8
    · rw [if_pos e, if_pos (by omega)]
    · rw [if_neg e, ih (by by_cases q : n = 0; exact .inr q; exact .inl (by omega))]
      by_cases q : n = 0
      · subst q; rw [if_neg (by omega), if_neg (by omega)]
      · by_cases q2 : i / 8 ≤ k ∧ k ≤ (i + n - 1) / 8
        · rw [if_pos ⟨q, q2⟩, if_pos (by omega)]
        · rw [if_neg (by omega), if_neg (by omega)]
theorem dirtyB_is {S T : List UInt8} {k : Nat} : dirtyB S T k = false ↔ ∀ j, 8 * k ≤ j → j < 8 * k + 8 → S.getD j 0 = T.getD j 0 := by
  constructor
  · intro h j h1 h2
    refine Decidable.byContradiction fun q => ?_
    unfold dirtyB at h
    have := List.any_eq_false.1 h (j - 8 * k) (by simp; omega)
    rw [show 8 * k + (j - 8 * k) = j by omega] at this
    simp at this
    exact q this
  · intro h
    unfold dirtyB
    rw [List.any_eq_false]
    intro j hj
    have := h (8 * k + j) (by omega) (by simp at hj; omega)
    rw [this]; simp

/-- The lengths are right; what is seen and does not last is on its way. -/
structure MS.ok (s : MS) : Prop where
  S : s.S.length = 1024
  T : s.T.length = 1024
  A : s.A.length = 128
def MS.cov (s : MS) : Prop := ∀ k, k < 128 → dirtyB s.S s.T k = true → s.A.getD k false = true
/-- All that is seen lasts, and nothing is on its way. -/
def MS.still (s : MS) : Prop := s.S = s.T
theorem MS.still_cov {s : MS} (h : s.still) : s.cov := by
  intro k _ hd
  rw [dirtyB_is.2 (fun j _ _ => by rw [h])] at hd
  cases hd
theorem MS.ok.ok_store {s : MS} (h : s.ok) (a : Int) (bs : List UInt8) : (s.store a bs).ok := by
  refine ⟨by rw [MS.store_S]; exact h.S, h.T, ?_⟩
  unfold MS.store storeA
  split
  · rw [clrL_length]; exact h.A
  · exact h.A
theorem MS.ok.ok_flush {s : MS} (h : s.ok) (a n : Int) : (s.flush a n).ok := by
  refine ⟨h.S, h.T, ?_⟩
  unfold MS.flush flushU
  split
  · rw [flushA_length]; exact h.A
  · exact h.A
theorem MS.ok.ok_fence {s : MS} (h : s.ok) : s.fence.ok := ⟨h.S, by rw [MS.fence, mixL_length]; exact h.T, by rw [MS.fence, List.length_replicate]⟩
theorem MS.ok.ok_keep {s : MS} (h : s.ok) (a : Int) (bs : List UInt8) : (s.keep a bs).ok := ((h.ok_store a bs).ok_flush a bs.length).ok_fence
theorem MS.ok.ok_crash {s : MS} (h : s.ok) (pk : List Int) : (s.crash pk).ok := ⟨by rw [MS.crash, MS.mixed, mixL_length]; exact h.T, by rw [MS.crash, MS.mixed, mixL_length]; exact h.T, by rw [MS.crash, List.length_replicate]⟩
theorem MS.fence_still {s : MS} (h : s.ok) (hc : s.cov) : s.fence.still := by
  show s.S = mixL s.S s.T fun k => s.A.getD k false
  refine ext_getD (by rw [mixL_length, h.S, h.T]) fun j hj => ?_
  rw [h.S] at hj
  rw [mixL_get _ _ _ _ (by rw [h.T]; exact hj)]
  cases hA : s.A.getD (j / 8) false with
  | true => rfl
  | false =>
    rw [if_neg (by simp)]
    cases hd : dirtyB s.S s.T (j / 8) with
    | true => rw [hc (j / 8) (by omega) hd] at hA; cases hA
    | false => exact dirtyB_is.1 hd j (by omega) (by omega)
theorem MS.crash_still (s : MS) (pk : List Int) : (s.crash pk).still := rfl
theorem MS.store_in {s : MS} {a : Int} {bs : List UInt8} (h : inW 1024 a bs.length = true) : s.store a bs = ⟨putL s.S a.toNat bs, s.T, clrL s.A a.toNat bs.length⟩ := by
  unfold MS.store storeS storeA
  rw [show inW (8 * 128) a bs.length = true from h]
  rfl
theorem MS.store_out {s : MS} {a : Int} {bs : List UInt8} (h : inW 1024 a bs.length = false) : s.store a bs = s := by
  unfold MS.store storeS storeA
  rw [show inW (8 * 128) a bs.length = false from h]
  rfl
theorem MS.flush_in {s : MS} {a n : Int} (h : inW 1024 a n = true) : s.flush a n = ⟨s.S, s.T, flushA s.S s.T s.A (lineB a.toNat n.toNat)⟩ := by
  unfold MS.flush flushU
  rw [show inW (8 * 128) a n = true from h]
  rfl
theorem MS.flush_out {s : MS} {a n : Int} (h : inW 1024 a n = false) : s.flush a n = s := by
  unfold MS.flush flushU
  rw [show inW (8 * 128) a n = false from h]
  rfl
/-- What is stored and flushed is on its way. -/
theorem MS.put_cov {s : MS} (h : s.ok) (hc : s.cov) {a : Int} {bs : List UInt8} (hin : inW 1024 a bs.length = true) : ((s.store a bs).flush a bs.length).cov := by
  obtain ⟨h1, -, h3⟩ := inW_iff.1 hin
  obtain ⟨i, rfl⟩ : ∃ i : Nat, a = (i : Int) := ⟨a.toNat, by omega⟩
  rw [MS.store_in hin, MS.flush_in hin]
  intro k hk hd
  have hS := h.S
  have hA := h.A
  simp only [Int.toNat_natCast] at hd ⊢
  rw [flushA_get _ _ _ _ _ (by rw [clrL_length, hA]; exact hk), hd, Bool.and_true]
  have hpos : bs.length = 0 ∨ 0 < bs.length := by omega
  rw [clrL_get _ _ _ _ (by rw [hA]; rcases hpos with q | q; exact .inr q; exact .inl (by omega))]
  by_cases hin2 : bs.length ≠ 0 ∧ i / 8 ≤ k ∧ k ≤ (i + bs.length - 1) / 8
  · rw [if_pos hin2, Bool.false_or]
    simp only [lineB, decide_eq_true_eq]
    omega
  · rw [if_neg hin2]
    rw [hc k hk, Bool.true_or]
    cases hd2 : dirtyB s.S s.T k with
    | true => rfl
    | false =>
      rw [dirtyB_is.2] at hd
      · cases hd
      intro j j1 j2
      rw [putL_get _ _ _ _ (by rw [hS]; omega), if_neg (by omega)]
      exact dirtyB_is.1 hd2 j j1 j2
theorem MS.keep_still {s : MS} (h : s.ok) (hc : s.cov) (a : Int) (bs : List UInt8) : (s.keep a bs).still := by
  cases hin : inW 1024 a bs.length with
  | true => exact MS.fence_still ((h.ok_store a bs).ok_flush a bs.length) (MS.put_cov h hc hin)
  | false =>
    unfold MS.keep
    rw [MS.store_out hin, MS.flush_out hin]
    exact MS.fence_still h hc
theorem MS.keep_S {s : MS} {a : Int} {bs : List UInt8} (hin : inW 1024 a bs.length = true) : (s.keep a bs).S = putL s.S a.toNat bs := by
  unfold MS.keep
  rw [MS.store_in hin]
  rfl
theorem MS.patch_cov {s : MS} (h : s.ok) (hc : s.cov) (p : PT) : (s.patch p).ok ∧ (s.patch p).cov := by
  unfold MS.patch
  cases hin : inW 1024 p.pos p.dat.size with
  | true =>
    rw [if_pos rfl, ← PT.txt_length p]
    exact ⟨(h.ok_store _ _).ok_flush _ _, MS.put_cov h hc (by rw [PT.txt_length]; exact hin)⟩
  | false => rw [if_neg (by simp)]; exact ⟨h, hc⟩
theorem MS.patches_cov (L : List PT) : ∀ {s : MS}, s.ok → s.cov → (s.patches L).ok ∧ (s.patches L).cov := by
  induction L with
  | nil => intro s h hc; exact ⟨h, hc⟩
  | cons p L ih => intro s h hc; exact ih (MS.patch_cov h hc p).1 (MS.patch_cov h hc p).2
theorem MS.redone_cov (R : List (List PT)) : ∀ {s : MS}, s.ok → s.cov → (s.redone R).ok ∧ (s.redone R).cov := by
  induction R with
  | nil => intro s h hc; exact ⟨h, hc⟩
  | cons L R ih => intro s h hc; exact ih (MS.patches_cov L h hc).1 (MS.patches_cov L h hc).2

/-- Patches laid over bytes. -/
def patS (S : List UInt8) (p : PT) : List UInt8 := if inW 1024 p.pos p.dat.size then putL S p.pos.toNat p.txt else S
theorem patch_S (s : MS) (p : PT) : (s.patch p).S = patS s.S p := by
  unfold MS.patch patS
  cases hin : inW 1024 p.pos p.dat.size with
  | true => rw [if_pos rfl, if_pos rfl, MS.store_in (by rw [PT.txt_length]; exact hin)]; rfl
  | false => rw [if_neg (by simp), if_neg (by simp)]
theorem patches_S (L : List PT) : ∀ s : MS, (s.patches L).S = L.foldl patS s.S := by
  induction L with
  | nil => intro s; rfl
  | cons p L ih => intro s; show ((s.patch p).patches L).S = _; rw [ih, patch_S]; rfl
theorem redone_S (R : List (List PT)) : ∀ s : MS, (s.redone R).S = R.flatten.foldl patS s.S := by
  induction R with
  | nil => intro s; rfl
  | cons L R ih => intro s; show ((s.patches L).redone R).S = _; rw [ih, patches_S]; simp
theorem redo_is {s : MS} (h : s.ok) (hc : s.cov) : s.redo.ok ∧ s.redo.still ∧ s.redo.S = putL ((lgL s.S).flatten.foldl patS s.S) 512 (List.replicate 8 0) := by
  have h1 := MS.redone_cov (lgL s.S) h hc
  have h2 := MS.ok.ok_fence h1.1
  have h3 := MS.still_cov (MS.fence_still h1.1 h1.2)
  refine ⟨MS.ok.ok_keep h2 _ _, MS.keep_still h2 h3 _ _, ?_⟩
  rw [MS.redo, MS.wipe, MS.keep_S (by simp [inW]), ← redone_S]
  rfl
theorem lgE_wiped {S : List UInt8} (h : S.length = 1024) : lgE (putL S 512 (List.replicate 8 0)) = 0 := by
  have e := putL_eq (List.replicate 8 0) S 512 (by simp [h])
  have g := get_mid (bs := putL S 512 (List.replicate 8 0)) (p := S.take 512) (q := S.drop 520) (n := 0) (a := 512) (wd := 8) (by rw [e]; rfl) (by simp [h]) (by decide) (by decide)
  have g1 : getN (putL S 512 (List.replicate 8 0)) 512 8 = 0 := g.1
  rw [lgE, g1]
  rfl

/-- A record that is appended is the last of the log's. -/
theorem app_log {S : List UInt8} {L : List PT} (h : S.length = 1024) (hm : mayP L = true) (hU : lgU S + (encP L).length ≤ 504) :
    lgL (putL (putL S (520 + lgU S) (encP L)) 512 (leB (lgU S + (encP L).length) 8)) = lgL S ++ [L] ∧ lgU (putL (putL S (520 + lgU S) (encP L)) 512 (leB (lgU S + (encP L).length) 8)) = lgU S + (encP L).length := by
  obtain ⟨U, hUU⟩ : ∃ U, U = lgU S := ⟨_, rfl⟩
  obtain ⟨b, hb⟩ : ∃ b, b = encP L := ⟨_, rfl⟩
  rw [← hUU, ← hb] at hU ⊢
  have hE := lgB_length h
  have hUE : U ≤ lgE S := by have := (rcU_bound (lgB S)).1; rw [hE] at this; rw [hUU]; exact this
  have hE5 := lgE_le S
  have e1 := putL_eq b S (520 + U) (by omega)
  have l1 : (putL S (520 + U) b).length = 1024 := by rw [putL_length]; exact h
  have e2 := putL_eq (leB (U + b.length) 8) (putL S (520 + U) b) 512 (by rw [leB_length]; omega)
  rw [leB_length] at e2
  obtain ⟨S2, hS2⟩ : ∃ S2, S2 = putL (putL S (520 + U) b) 512 (leB (U + b.length) 8) := ⟨_, rfl⟩
  rw [← hS2] at e2 ⊢
  have g := get_mid (bs := S2) (p := (putL S (520 + U) b).take 512) (q := (putL S (520 + U) b).drop 520) (n := ((U + b.length : Nat) : Int)) (a := 512) (wd := 8) (by rw [e2]; rfl) (by rw [List.length_take]; omega) (by simp [fitsB]; omega) (by omega)
  have g1 : getN S2 512 8 = ((U + b.length : Nat) : Int) := g.1
  have hEE : lgE S2 = U + b.length := by
    rw [lgE, g1, if_neg (by omega)]; omega
  have hd : S2.drop 520 = (putL S (520 + U) b).drop 520 := by
    rw [e2, ← List.append_assoc, List.drop_left' (by rw [List.length_append, List.length_take, leB_length]; omega)]
  have hB : lgB S2 = (lgB S).take U ++ b := by
    rw [lgB, hEE, hd, e1, List.drop_append_of_le_length (by rw [List.length_take]; omega), List.drop_take, show 520 + U - 520 = U by omega, ← List.append_assoc, List.take_left' (by rw [List.length_append, List.length_take, List.length_drop]; omega), lgB, List.take_take, Nat.min_eq_left hUE]
  have r1 := rc_app _ (lgB S) b (Nat.le_refl _)
  have r2 := rc_rec hm []
  rw [← hb, List.append_nil, rc_nil.1, rc_nil.2] at r2
  have hU2 : rcU (lgB S) = U := by rw [hUU]; rfl
  rw [hU2] at r1
  refine ⟨?_, ?_⟩
  · rw [lgL, hB, r1.1, r2.1]; rfl
  · rw [lgU, hB, r1.2, r2.2]; rfl
theorem apE_iff {S : List UInt8} {L : List PT} : apE S L = 0 ↔ mayP L = true ∧ lgU S + (encP L).length ≤ 504 := by
  unfold apE
  cases mayP L with
  | true =>
    rw [if_pos rfl]
    by_cases h : 504 < lgU S + (encP L).length
    · rw [if_pos h]; simp; omega
    · rw [if_neg h]; simp; omega
  | false => simp
theorem append_is {s : MS} (h : s.ok) (hc : s.cov) {L : List PT} (hE : apE s.S L = 0) : (s.append L).ok ∧ (s.append L).still ∧ lgL (s.append L).S = lgL s.S ++ [L] ∧ (s.append L).S = putL (putL s.S (520 + lgU s.S) (encP L)) 512 (leB (lgU s.S + (encP L).length) 8) := by
  obtain ⟨h1, h2⟩ := apE_iff.1 hE
  have hin1 : inW 1024 ((520 + lgU s.S : Nat) : Int) (encP L).length = true := by simp [inW]; omega
  have hin2 : inW 1024 512 ((leB (lgU s.S + (encP L).length) 8).length : Nat) = true := by rw [leB_length]; simp [inW]
  have e1 : (s.append L).S = putL (putL s.S (520 + lgU s.S) (encP L)) 512 (leB (lgU s.S + (encP L).length) 8) := by
    rw [MS.append, if_pos hE, MS.keep_S hin2, MS.keep_S hin1]; rfl
  refine ⟨?_, ?_, ?_, e1⟩
  · rw [MS.append, if_pos hE]; exact MS.ok.ok_keep (MS.ok.ok_keep h _ _) _ _
  · rw [MS.append, if_pos hE]; exact MS.keep_still (MS.ok.ok_keep h _ _) (MS.still_cov (MS.keep_still h hc _ _)) _ _
  · rw [e1]; exact (app_log h.S h1 h2).1
end Go.Proofs.Ytncjfljmnkfghaa

namespace Go.Proofs.Ytncjfljmnkfghaa
open Go.RowKit

theorem zeros_cells (m : Nat) : Builtin.zeroCells (Value.int .u8 0).cells m = (Lib.strCells ⟨Array.replicate m 0⟩).toArray := by
  apply Array.ext
  · simp [Builtin.zeroCells, Lib.strCells, Value.cells]
  · intro j h1 h2
    simp [Builtin.zeroCells, Lib.strCells, Value.cells, Nat.mod_one]

theorem run_append_zeros_eq {P : Program} (w : World) (t ti u ty e : TypeId) (i : TypeInfo) (k : IntKind) (ht : P.underlying t = some (.slice e)) (hti : P.underlying ti = some (.int k)) (hu : P.underlying u = some .string)
    (hi : P.info? e = some i) (hz : i.zero = some (.int .u8 0)) (hsize : i.size = 1) (hby : i.bytes = 1) (A : Option Addr) (n c m : Nat) (hnm : n + m ≤ 140737488355328) :
    (Builtin.append_ #[t, ti] ty #[.slice A n c, .int .i64 m]).run P w = (Builtin.append_ #[t, u] ty #[.slice A n c, .string ⟨Array.replicate m 0⟩]).run P w := by
  have hsz : (ByteArray.mk (Array.replicate m 0)).size = m := by show (Array.replicate m (0 : UInt8)).size = m; simp
  have hf : ∀ w', (Builtin.firstCells 1 m (.string ⟨Array.replicate m 0⟩)).run P w' = .ok (Lib.strCells ⟨Array.replicate m 0⟩).toArray w' := by
    intro w'
    have := Lib.run_firstCells_string (P := P) w' 1 ⟨Array.replicate m 0⟩
    rwa [hsz] at this
  have hwr : IntKind.i64.wrap (m : Int) = m := by
    exact IntWalk.i64_in _ (by omega)
  have hai : ∀ w', (asIntOf (.int .i64 (m : Int))).run P w' = .ok (.i64, (m : Int)) w' := fun _ => rfl
  have hm0 : ¬ ((m : Int) < 0) := by omega
  have hm1 : ¬ (281474976710656 < (m : Int)) := by omega
  have hnil : m = 0 → (Lib.strCells ⟨Array.replicate m 0⟩).toArray = #[] := by rintro rfl; rfl
  have hz0 := zeros_cells m
  by_cases hroom : n + m ≤ c
  · by_cases h0 : m = 0
    · subst h0
      replace hwr : IntKind.i64.wrap 0 = 0 := hwr
      replace hai : ∀ w', (asIntOf (.int .i64 0)).run P w' = .ok (.i64, 0) w' := hai
      have hsz0 : (ByteArray.mk #[]).size = 0 := rfl
      have hf0 : ∀ w', (Builtin.firstCells 1 0 (.string ⟨#[]⟩)).run P w' = .ok #[] w' := hf
      clear hf hsz hnil hz0
      simp [Builtin.append_, run_underlying ht, run_underlying hti, run_underlying hu, sizeOf, typeInfo, hi, hsize, hby, Builtin.lenOf, asInt, hai, hwr, hsz0, (show n ≤ c by omega), hf0, zeroValue, hz]
    · simp [Builtin.append_, run_underlying ht, run_underlying hti, run_underlying hu, sizeOf, typeInfo, hi, hsize, hby, Builtin.lenOf, asInt, hai, hwr, hsz, hroom, hf, hm0, hm1, h0, hz0, zeroValue, hz]
  · have h63 : ¬ (9223372036854775807 < ((n : Int) + (m : Int))) := by omega
    have h48 : ¬ (281474976710656 < Builtin.nextslicecap (n + m) c) := by
      have := growslice_fits (need := n + m) (old := c) (bytes := 1) (by omega) (by omega)
      omega
    by_cases h0 : m = 0
    · subst h0
      replace hwr : IntKind.i64.wrap 0 = 0 := hwr
      replace hai : ∀ w', (asIntOf (.int .i64 0)).run P w' = .ok (.i64, 0) w' := hai
      have hsz0 : (ByteArray.mk #[]).size = 0 := rfl
      have hf0 : ∀ w', (Builtin.firstCells 1 0 (.string ⟨#[]⟩)).run P w' = .ok #[] w' := hf
      clear hf hsz hnil hz0
      simp [Builtin.append_, run_underlying ht, run_underlying hti, run_underlying hu, sizeOf, typeInfo, hi, hsize, hby, Builtin.lenOf, asInt, hai, hwr, hsz0, (show ¬ n ≤ c by omega), hf0, (show ¬ (9223372036854775807 < (n : Int)) by omega), (show ¬ (281474976710656 < Builtin.nextslicecap n c) by simpa using h48), zeroValue, hz]
    · simp [Builtin.append_, run_underlying ht, run_underlying hti, run_underlying hu, sizeOf, typeInfo, hi, hsize, hby, Builtin.lenOf, asInt, hai, hwr, hsz, hroom, hf, hm0, hm1, h63, h48, h0, hz0, zeroValue, hz]

theorem strCells_bvs (s : ByteArray) : Lib.strCells s = bvs s.data.toList := rfl
theorem data_length (s : ByteArray) : s.data.toList.length = s.size := by rw [Array.length_toList]; rfl

/-- 'append(out, s...)': a text's bytes. -/
theorem wpList_appS {w : World} {ops : Array Oper} {rest : List Oper} {o : Oper} {a : Act} {Q : Exit → Act → World → Prop} (hgd : o.guard = none) (s x : Operand)
    (ho : o.op = .call { callee := .builtin .append, args := #[s, x], argTypes := #[24, 9] })
    (base : Nat) (v : Value) (bs : List UInt8) (hs : a.eval s = v) (hown : OB w base v bs) (t : ByteArray) (hx : a.eval x = .string t)
    (h63 : bs.length + t.size ≤ 140737488355328) (hbase : base ≤ w.heap.size)
    (h : ∀ v' w', OB w' base v' (bs ++ t.data.toList) → Below base w w' → wpList Try.prog ops Q rest (a.put o.dst v') w') : wpList Try.prog ops Q (o :: rest) a w := by
  obtain ⟨i0, hi, hz, h1, h2⟩ := info_parts byte_info
  refine Lib.wpList_append_own_string w hgd s x _ _ ho base 5 i0 Try.underlying24 Try.underlying9 hi hz h1 h2 v bs.length (bvs bs) hs hown t hx (by unfold maxLen; omega) h63 hbase ?_
  intro v' w' h3 h4 _
  refine h v' w' ?_ ((Below.refl _ _).grown h4 hbase (fun k hk => (hown.lt k hk).1))
  unfold OB
  rw [List.length_append, bvs_append, data_length]
  exact h3

/-- 'append(out, make([]byte, m)...)': noughts. -/
theorem wpList_appZ {w : World} {ops : Array Oper} {rest : List Oper} {o : Oper} {a : Act} {Q : Exit → Act → World → Prop} (hgd : o.guard = none) (s x : Operand)
    (ho : o.op = .call { callee := .builtin .append, args := #[s, x], argTypes := #[24, 3] })
    (base : Nat) (v : Value) (bs : List UInt8) (hs : a.eval s = v) (hown : OB w base v bs) (m : Nat) (z : Int) (hz0 : z = m) (hx : a.eval x = .int .i64 z)
    (h63 : bs.length + m ≤ 140737488355328) (hbase : base ≤ w.heap.size)
    (h : ∀ v' w', OB w' base v' (bs ++ List.replicate m 0) → Below base w w' → wpList Try.prog ops Q rest (a.put o.dst v') w') : wpList Try.prog ops Q (o :: rest) a w := by
  subst hz0
  obtain ⟨i0, hi, hz, h1, h2⟩ := info_parts byte_info
  have hsz : (ByteArray.mk (Array.replicate m 0)).size = m := by show (Array.replicate m (0 : UInt8)).size = m; simp
  obtain ⟨A, c, rfl, hc1, hc2, -, -⟩ := hown.form
  obtain ⟨v', w', hrun, h3, h4, -⟩ := Lib.run_append_own_string (P := Try.prog) w base 24 9 o.type 5 i0 Try.underlying24 Try.underlying9 hi hz h1 h2 (.slice A bs.length c) bs.length (bvs bs) hown ⟨Array.replicate m 0⟩
    (by rw [hsz]; unfold maxLen; omega) (by rw [hsz]; exact h63) hbase
  rw [← run_append_zeros_eq (P := Try.prog) w 24 3 9 o.type 5 i0 .i64 Try.underlying24 Try.underlying3 Try.underlying9 hi hz h1 h2 A bs.length c m h63] at hrun
  refine wpList_plain hgd fun K hK => ?_
  unfold Oper.wp execOp
  simp only [ho, resolve, invoke, builtin, Sem.run_bind, Sem.run_pure, Result.andThen_ok, List.map_toArray, List.map_cons, List.map_nil, hs, hx, hrun]
  refine hK _ _ (h v' w' ?_ ((Below.refl _ _).grown h4 hbase (fun k hk => (hown.lt k hk).1)))
  unfold OB
  rw [List.length_append, bvs_append, List.length_replicate]
  rw [hsz, strCells_bvs] at h3
  simpa using h3

/-- 'append(out, x, y)': two bytes, laid in a new block first. -/
theorem wpList_app2 {w : World} {ops : Array Oper} {rest : List Oper} {o : Oper} {a : Act} {Q : Exit → Act → World → Prop} (hgd : o.guard = none) (s x : Operand)
    (ho : o.op = .call { callee := .builtin .append, args := #[s, x], argTypes := #[24, 24] })
    (base : Nat) (v : Value) (bs : List UInt8) (hs : a.eval s = v) (z y : Int) (hx : a.eval x = .slice (some ⟨w.heap.size, 0, none⟩) 2 2) (hown : OB w base v bs)
    (u p : UInt8) (hu : (u.toNat : Int) = z) (hp : (p.toNat : Int) = y)
    (h63 : bs.length + 2 ≤ 140737488355328) (hbase : base ≤ w.heap.size)
    (h : ∀ v' w', OB w' base v' (bs ++ [u, p]) → Below base w w' → wpList Try.prog ops Q rest (a.put o.dst v') w') : wpList Try.prog ops Q (o :: rest) a (w.alloc (.cells #[.int .u8 z, .int .u8 y] 5)) := by
  subst hu
  subst hp
  refine wpList_appB hgd s x ho base v bs hs (hown.alloc _) (w.heap.size + 1) (some ⟨w.heap.size, 0, none⟩) 2 [u, p] 2 rfl hx (RB.lit w _ _ [u, p] rfl) h63 (by simp; omega) ?_
  intro v' w' h1 h2 _ _
  exact h v' w' h1 (((Below.refl _ _).alloc hbase _).trans h2)

end Go.Proofs.Ytncjfljmnkfghaa

namespace Go.Proofs.Ytncjfljmnkfghaa
open Go.RowKit

theorem pow_byte (k : Nat) : (2 : Nat) ^ (8 * k) = 256 ^ k := by rw [show (256 : Nat) = 2 ^ 8 from rfl, ← Nat.pow_mul]

theorem or_byte (m k : Nat) (u : UInt8) (hm : m < 256 ^ k) (hk : k < 8) :
    bits .or .u64 (m : Int) (IntKind.u64.wrap (IntKind.u64.wrap (u.toNat : Int) * 2 ^ (8 * k))) = ((m + 256 ^ k * u.toNat : Nat) : Int) := by
  have hu := u.toNat_lt
  have hp : (256 : Nat) ^ k ≤ 256 ^ 7 := Nat.pow_le_pow_right (by omega) (by omega)
  have hp7 : (256 : Nat) ^ 7 = 72057594037927936 := by decide
  have hmul : 256 ^ k * u.toNat ≤ 72057594037927936 * 255 := Nat.mul_le_mul (by omega) (by omega)
  have e1 : IntKind.u64.wrap (u.toNat : Int) = (u.toNat : Int) := by simp [IntKind.wrap, IntKind.bits, IntKind.signed]; omega
  have e2 : ((u.toNat : Int) * 2 ^ (8 * k)) = ((256 ^ k * u.toNat : Nat) : Int) := by
    rw [← pow_byte k, Int.natCast_mul, Int.mul_comm]; simp
  have e3 : IntKind.u64.wrap ((256 ^ k * u.toNat : Nat) : Int) = ((256 ^ k * u.toNat : Nat) : Int) := by
    rw [IntKind.wrap_u64]
    omega
  rw [e1, e2, e3, u64_or_nat _ _ (by omega) (by omega), Nat.or_comm, nat_join (8 * k) _ _ (by rw [pow_byte]; simp) (by rw [pow_byte]; exact hm), Nat.add_comm]

end Go.Proofs.Ytncjfljmnkfghaa
