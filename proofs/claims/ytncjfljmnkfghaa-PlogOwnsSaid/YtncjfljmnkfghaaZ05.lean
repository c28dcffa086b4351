/- Numbers within bytes, and sums behind bytes: plain words. Steps over slices of bytes: what is handed out and what is read, in words that last from call to call. A memory as it lies in the heap: two rows of cells, a set of numbers. A record's bytes, by their parts: plain words. No statement of the seat is proved here. -/
import Derived.Test.YtncjfljmnkfghaaZ02
import Derived.Test.YtncjfljmnkfghaaZ03
import Derived.Test.YtncjfljmnkfghaaZ01
import Derived.Test.YtncjfljmnkfghaaZ04
import Derived.Deep.Onto
import Derived.Maps.OwnSet
import Derived.Maps.Range
namespace Go.Proofs.Ytncjfljmnkfghaa

theorem cut_next {α : Type} (c : List α) (a k : Nat) : c.drop a = (c.drop a).take k ++ c.drop (a + k) := by
  rw [← List.drop_drop]
  exact (List.take_append_drop k _).symm

/-- A number within bytes. -/
theorem get_mid {bs p q : List UInt8} {n : Int} {a wd : Nat} (hb : bs = p ++ (leB n.toNat wd ++ q)) (hp : p.length = a) (h : fitsB n wd = true) (h1 : n ≤ 9223372036854775807) : getN bs a wd = n ∧ getK bs a wd = true := by
  have hw := fits_width h
  have hpw := fits_pow h h1
  have h0 := fits_nat h
  subst hb hp
  have := get_small (bs := p ++ (leB n.toNat wd ++ q)) (a := p.length) (k := wd) (m := n.toNat) (by simp [isW]; omega) (by simp [leB_length])
    (by rw [List.drop_left, List.take_left' (leB_length _ _), leVal_leB, Nat.mod_eq_of_lt hpw]) (by omega)
  refine ⟨?_, this.2⟩
  rw [this.1]
  omega

theorem getO_congr {b c : List UInt8} {a wd : Nat} (hb : a + wd ≤ b.length) (hc : a + wd ≤ c.length) (h : (b.drop a).take wd = (c.drop a).take wd) : getO b a wd = getO c a wd := by
  unfold getO
  simp only [Int.toNat_natCast]
  rw [h]
  by_cases hw : isW (wd : Int) = true
  · have c1 : isW (wd : Int) = true ∧ 0 ≤ (a : Int) ∧ (a : Int) + wd ≤ b.length := ⟨hw, by omega, by omega⟩
    have c2 : isW (wd : Int) = true ∧ 0 ≤ (a : Int) ∧ (a : Int) + wd ≤ c.length := ⟨hw, by omega, by omega⟩
    rw [if_pos c1, if_pos c2]
  · have c1 : ¬ (isW (wd : Int) = true ∧ 0 ≤ (a : Int) ∧ (a : Int) + wd ≤ b.length) := fun h => hw h.1
    have c2 : ¬ (isW (wd : Int) = true ∧ 0 ≤ (a : Int) ∧ (a : Int) + wd ≤ c.length) := fun h => hw h.1
    rw [if_neg c1, if_neg c2]
theorem getO_take {b : List UInt8} {a wd m : Nat} (h : a + wd ≤ m) (hb : m ≤ b.length) : getO (b.take m) a wd = getO b a wd := by
  refine getO_congr (by simp; omega) (by omega) ?_
  rw [List.drop_take, List.take_take, Nat.min_eq_left (by omega)]
theorem getN_take {b : List UInt8} {a wd m : Nat} (h : a + wd ≤ m) (hb : m ≤ b.length) : getN (b.take m) a wd = getN b a wd := by unfold getN; rw [getO_take h hb]
theorem getK_take {b : List UInt8} {a wd m : Nat} (h : a + wd ≤ m) (hb : m ≤ b.length) : getK (b.take m) a wd = getK b a wd := by unfold getK; rw [getO_take h hb]

/-- A number of 4 bytes or fewer is always one. -/
theorem getK_small {b : List UInt8} {a wd : Nat} (hw : wd = 1 ∨ wd = 2 ∨ wd = 4) (h : a + wd ≤ b.length) : getK b a wd = true := by
  have hlt := leVal_lt ((b.drop a).take wd)
  rw [List.length_take, List.length_drop, Nat.min_eq_left (by omega)] at hlt
  refine (get_small (bs := b) (a := a) (k := wd) (by simp [isW]; omega) (by omega) rfl ?_).2
  rcases hw with rfl | rfl | rfl <;> simp at hlt <;> omega
theorem getK_range {b : List UInt8} {a wd : Nat} (h : getK b a wd = true) : a + wd ≤ b.length := by
  obtain ⟨a', wd', e1, e2, -, -, h3, -⟩ := put_get h
  omega
/-- The bytes of a number that is got. -/
theorem get_piece {b : List UInt8} {a wd : Nat} (h : getK b a wd = true) : (b.drop a).take wd = leB (getN b a wd).toNat wd := by
  obtain ⟨a', wd', e1, e2, -, -, -, -, h3, -⟩ := put_get h
  obtain rfl : a = a' := by omega
  obtain rfl : wd = wd' := by omega
  exact h3.symm
theorem get_range {b : List UInt8} {a wd : Nat} (h : getK b a wd = true) : fitsB (getN b a wd) wd = true ∧ 0 ≤ getN b a wd ∧ getN b a wd ≤ 9223372036854775807 := by
  obtain ⟨a', wd', e1, e2, -, -, -, h2, -, h4, h5⟩ := put_get h
  exact ⟨h2, h4, h5⟩
theorem get_any (b : List UInt8) (a wd : Int) : 0 ≤ getN b a wd ∧ getN b a wd ≤ 9223372036854775807 := by
  cases h : getK b a wd with
  | true => obtain ⟨a', wd', e1, e2, -, -, -, h2, -, h4, h5⟩ := put_get h; exact ⟨h4, h5⟩
  | false => rw [get_no h]; omega
theorem get_byte {b : List UInt8} {a : Nat} (h : a < b.length) : getN b a 1 = (b[a].toNat : Int) := by
  have e : (b.drop a).take 1 = [b[a]] := by
    rw [List.drop_eq_getElem_cons h]; rfl
  have := (get_small (bs := b) (a := a) (k := 1) (m := b[a].toNat) (by decide) (by omega) (by rw [e]; simp [leVal]) (by have := b[a].toNat_lt; omega)).1
  simpa using this
theorem get_lt {b : List UInt8} {a wd : Nat} (hw : wd = 1 ∨ wd = 2 ∨ wd = 4) : getN b a wd < 256 ^ wd := by
  cases h : getK b a wd with
  | true =>
    have := (get_range h).1
    obtain ⟨z, hz⟩ : ∃ z, z = getN b a wd := ⟨_, rfl⟩
    rw [← hz] at this ⊢
    simp only [fitsB, decide_eq_true_eq] at this
    rcases hw with rfl | rfl | rfl <;> simp <;> omega
  | false => rw [get_no h]; rcases hw with rfl | rfl | rfl <;> simp

/-- Bytes and their sum behind them. -/
def sumB (p : List UInt8) : List UInt8 := p ++ leB (crcN p) 4
theorem sumB_length (p : List UInt8) : (sumB p).length = p.length + 4 := by simp [sumB, leB_length]
theorem fits_crc (p : List UInt8) : fitsB ((crcN p : Nat) : Int) 4 = true := by
  have := crcN_lt p
  simp [fitsB]; omega
theorem sumB_get (p q : List UInt8) : getN (sumB p ++ q) p.length 4 = (crcN p : Nat) := by
  have := crcN_lt p
  refine (get_mid (p := p) (q := q) (n := ((crcN p : Nat) : Int)) (wd := 4) ?_ rfl (fits_crc p) (by omega)).1
  simp [sumB]
theorem sumB_get' (p : List UInt8) : getN (sumB p) p.length 4 = (crcN p : Nat) := by simpa using sumB_get p []
theorem sumB_take (p q : List UInt8) : (sumB p ++ q).take p.length = p := by simp [sumB]
/-- Bytes whose sum is right are a sealed text. -/
theorem sum_right {b : List UInt8} {m : Nat} (h : m + 4 ≤ b.length) (hs : getN b m 4 = (crcN (b.take m) : Nat)) : b.take (m + 4) = sumB (b.take m) := by
  have hp := get_piece (getK_small (b := b) (a := m) (wd := 4) (.inr (.inr rfl)) h)
  rw [sumB, List.take_add, hp, show getN b m ((4 : Nat) : Int) = getN b m 4 from rfl, hs]
  simp

theorem set_split {α : Type} {l : List α} {k : Nat} (h : k < l.length) (x : α) : l.set k x = l.take k ++ x :: l.drop (k + 1) := List.set_eq_take_append_cons_drop.trans (by rw [if_pos h])
theorem leVal_inj {a b : List UInt8} (hl : a.length = b.length) (h : leVal a = leVal b) : a = b := by rw [← leB_leVal a, ← leB_leVal b, h, hl]
theorem crcN_set {p : List UInt8} {k : Nat} (h : k < p.length) {x : UInt8} (hx : x ≠ p[k]) : crcN (p.set k x) ≠ crcN p := by
  intro e
  have hp : p = p.take k ++ p[k] :: p.drop (k + 1) := by
    rw [← List.drop_eq_getElem_cons h, List.take_append_drop]
  rw [set_split h] at e
  have e2 : crcN (p.take k ++ x :: p.drop (k + 1)) = crcN (p.take k ++ p[k] :: p.drop (k + 1)) := by rw [← hp]; exact e
  exact hx (crcN_turned _ _ _ _ e2)
/-- A sealed text of which one byte is turned has no right sum. -/
theorem sum_turned {p : List UInt8} {k : Nat} (hk : k < (sumB p).length) {x : UInt8} (hx : x ≠ (sumB p)[k]) :
    getN ((sumB p).set k x) p.length 4 ≠ (crcN (((sumB p).set k x).take p.length) : Nat) := by
  intro e
  have hlen : ((sumB p).set k x).length = p.length + 4 := by rw [List.length_set, sumB_length]
  have hpc := get_piece (getK_small (b := (sumB p).set k x) (a := p.length) (wd := 4) (.inr (.inr rfl)) (by omega))
  rw [show getN ((sumB p).set k x) p.length ((4 : Nat) : Int) = getN ((sumB p).set k x) p.length 4 from rfl, e] at hpc
  by_cases h : k < p.length
  · have e1 : ((sumB p).set k x).take p.length = p.set k x := by
      rw [sumB, List.set_append_left _ _ h, List.take_left' (by simp)]
    have e2 : (((sumB p).set k x).drop p.length).take 4 = leB (crcN p) 4 := by
      rw [sumB, List.set_append_left _ _ h, List.drop_left' (by simp), List.take_of_length_le (by simp [leB_length])]
    rw [e1, e2] at hpc
    have h1 := crcN_lt p
    have h2 := crcN_lt (p.set k x)
    have := (leB_inj (n := ((crcN p : Nat) : Int)) (m := ((crcN (p.set k x) : Nat) : Int)) (wd := 4) (fits_crc _) (fits_crc _) (by omega) (by omega)).1 (by simpa using hpc)
    refine crcN_set h (x := x) ?_ (by omega)
    intro e3
    exact hx (by rw [e3]; simp [sumB, h])
  · have e1 : ((sumB p).set k x).take p.length = p := by
      rw [sumB, List.set_append_right _ _ (by omega), List.take_left]
    have e2 : (((sumB p).set k x).drop p.length).take 4 = (leB (crcN p) 4).set (k - p.length) x := by
      rw [sumB, List.set_append_right _ _ (by omega), List.drop_left, List.take_of_length_le (by simp [leB_length])]
    rw [e1, e2] at hpc
    rw [sumB_length] at hk
    have h4 : k - p.length < (leB (crcN p) 4).length := by rw [leB_length]; omega
    have := congrArg (fun l => l[k - p.length]?) hpc
    simp only [List.getElem?_set, h4, if_true, Int.toNat_natCast, List.getElem?_eq_getElem h4, Option.some.injEq] at this
    apply hx
    rw [this]
    simp only [sumB]
    rw [List.getElem_append_right (by omega)]
theorem xor_ne {a b : UInt8} (h : b ≠ 0) : a ^^^ b ≠ a := by
  intro e
  apply h
  have : a ^^^ (a ^^^ b) = a ^^^ a := by rw [e]
  rwa [← UInt8.xor_assoc, UInt8.xor_self, UInt8.zero_xor] at this

/-- Noughts within bytes. -/
def zerosB (b : List UInt8) (lo hi : Nat) : Bool := decide ((b.drop lo).take (hi - lo) = List.replicate (hi - lo) 0)
theorem zeros_iff {b : List UInt8} {lo hi : Nat} (h : hi ≤ b.length) : zerosB b lo hi = true ↔ ∀ i, lo ≤ i → (hi' : i < hi) → b[i] = 0 := by
  rw [zerosB, decide_eq_true_iff]
  constructor
  · intro e i h1 h2
    have := congrArg (fun l => l[i - lo]?) e
    simp only [List.getElem?_take, List.getElem?_drop, List.getElem?_replicate] at this
    rw [if_pos (by omega), if_pos (by omega), show lo + (i - lo) = i by omega, List.getElem?_eq_getElem (by omega)] at this
    simpa using this
  · intro e
    apply List.ext_getElem
    · simp; omega
    · intro j h1 h2
      simp only [List.getElem_take, List.getElem_drop, List.getElem_replicate]
      simp at h2
      exact e (lo + j) (by omega) (by omega)
end Go.Proofs.Ytncjfljmnkfghaa

namespace Go.Proofs.Ytncjfljmnkfghaa
open Go.RowKit

/-- num.Put where the number fits. -/
theorem put_s {A : Option Addr} {n c : Nat} {bs : List UInt8} (m : Nat) {k x : Int} {w : World} (hs : Sl w A n bs) (hf : fitsB k x = true) (hk : k ≤ 9223372036854775807) (hm : n + x.toNat = m) (hl : m ≤ 1073741000) :
    Calls Try.prog 40 #[.slice A n c, .int .i64 k, .int .i64 x] w fun e w' => ∃ A' c', e = .returned (.slice A' m c') ∧ Own w' w.heap.size A' m c' (bs ++ leB k.toNat x.toNat) ∧ Grow w w' := by
  obtain ⟨rfl, hn, hr⟩ := hs
  have h0 := fits_nat hf
  refine (num_put A bs c k x (by omega) hk w hr (by omega)).mono ?_
  rintro e w' ⟨v, rfl, hown, hb⟩
  rw [putB, if_pos hf] at hown
  obtain ⟨A', c', rfl, h⟩ := Own.ofOB hown m (by rw [List.length_append, leB_length]; exact hm) hl
  exact ⟨A', c', rfl, h, hb⟩

/-- num.Get. -/
theorem get_s {A : Option Addr} {n c : Nat} {bs : List UInt8} {at_ x : Int} {w : World} (hs : Sl w A n bs) (h0 : -9223372036854775808 ≤ at_) (h1 : at_ ≤ 9223372036854775807) :
    Calls Try.prog 47 #[.slice A n c, .int .i64 at_, .int .i64 x] w fun e w' => e = .returned (.tuple #[.int .i64 (getN bs at_ x), .bool (getK bs at_ x)]) ∧ w = w' := by
  obtain ⟨rfl, hn, hr⟩ := hs
  exact num_get A bs c at_ x h0 h1 _ w hr (by omega)

/-- crc.Sum. -/
theorem sum_s {A : Option Addr} {n c : Nat} {bs : List UInt8} {w : World} (hs : Sl w A n bs) :
    Calls Try.prog 42 #[.slice A n c] w fun e w' => ∃ q : Nat, e = .returned (.int .u32 (q : Int)) ∧ Hid (q = crcN bs) ∧ q < 4294967296 ∧ Grow w w' := by
  obtain ⟨hn, hl, hr⟩ := hs
  refine (crc_sum A bs n c hn.symm w hr (by omega)).mono ?_
  rintro e w' ⟨rfl, hb⟩
  exact ⟨_, rfl, Lib.hid rfl, crcN_lt bs, hb⟩

/-- The reference's. -/
theorem rput_s {A : Option Addr} {n c : Nat} {bs : List UInt8} (m : Nat) {k x : Int} {w : World} (hs : Sl w A n bs) (hf : fitsB k x = true) (hk : k ≤ 9223372036854775807) (hm : n + x.toNat = m) (hl : m ≤ 1073741000) :
    Calls Try.prog 39 #[.slice A n c, .int .i64 k, .int .i64 x] w fun e w' => ∃ A' c', e = .returned (.slice A' m c') ∧ Own w' w.heap.size A' m c' (bs ++ leB k.toNat x.toNat) ∧ Grow w w' := by
  obtain ⟨rfl, hn, hr⟩ := hs
  refine (ref1_put A bs c k x w hr (by omega) hk).mono ?_
  rintro e w' ⟨v, rfl, hown, hb⟩
  rw [putB, if_pos hf] at hown
  obtain ⟨A', c', rfl, h⟩ := Own.ofOB hown m (by rw [List.length_append, leB_length]; exact hm) hl
  exact ⟨A', c', rfl, h, hb⟩
theorem rget_s {A : Option Addr} {n c : Nat} {bs : List UInt8} {at_ x : Int} {w : World} (hs : Sl w A n bs) (h0 : -9223372036854775808 ≤ at_) (h1 : at_ ≤ 9223372036854775807) :
    Calls Try.prog 48 #[.slice A n c, .int .i64 at_, .int .i64 x] w fun e w' => e = .returned (.tuple #[.int .i64 (getN bs at_ x), .bool (getK bs at_ x)]) ∧ w = w' := by
  obtain ⟨rfl, hn, hr⟩ := hs
  exact ref1_get A bs c at_ x h0 h1 _ w hr (by omega)
theorem rsum_s {A : Option Addr} {n c : Nat} {bs : List UInt8} {w : World} (hs : Sl w A n bs) :
    Calls Try.prog 45 #[.slice A n c] w fun e w' => ∃ q : Nat, e = .returned (.int .i64 (q : Int)) ∧ Hid (q = crcN bs) ∧ q < 4294967296 ∧ w = w' := by
  obtain ⟨hn, hl, hr⟩ := hs
  refine (ref2_sum A bs n c hn.symm _ w hr (by omega)).mono ?_
  rintro e w' ⟨rfl, rfl⟩
  exact ⟨_, rfl, Lib.hid rfl, crcN_lt bs, rfl⟩
theorem same_s {A A' : Option Addr} {n n' c c' : Nat} {xs ys : List UInt8} {w : World} (hx : Sl w A n xs) (hy : Sl w A' n' ys) :
    Calls Try.prog 15 #[.slice A n c, .slice A' n' c'] w fun e w' => ∃ s, e = .returned (.bool s) ∧ Hid (s = decide (xs = ys)) ∧ ∃ k, w' = w.drewN k := by
  obtain ⟨rfl, hn, hr⟩ := hx
  obtain ⟨rfl, hn', hr'⟩ := hy
  refine (ref1_same A A' xs ys c c' _ _ w hr hr' (by omega) (by omega)).mono ?_
  rintro e w' ⟨rfl, k, rfl⟩
  exact ⟨_, rfl, Lib.hid rfl, k, rfl⟩
/-- Two slices of the same bytes are the same. -/
theorem same_yes {A A' : Option Addr} {n n' c c' : Nat} {xs ys : List UInt8} {w : World} (hx : Sl w A n xs) (hy : Sl w A' n' ys) (he : xs = ys) :
    Calls Try.prog 15 #[.slice A n c, .slice A' n' c'] w fun e w' => e = .returned (.bool true) ∧ ∃ k, w' = w.drewN k := by
  refine (same_s hx hy).mono ?_
  rintro e w' ⟨s, rfl, hs, k, rfl⟩
  rw [hs.out, decide_eq_true he]
  exact ⟨rfl, k, rfl⟩
end Go.Proofs.Ytncjfljmnkfghaa

namespace Go.Proofs.Ytncjfljmnkfghaa
open Go.RowKit Go.Maps

/-- Of what was there only blocks of F have turned. -/
structure Turn (F : Nat → Prop) (w w' : World) : Prop where
  os : w'.os = w.os
  tape : w'.tape = w.tape
  output : w'.output = w.output
  size : w.heap.size ≤ w'.heap.size
  block : ∀ k, k < w.heap.size → ¬ F k → w'.heap[k]? = w.heap[k]?
section
variable {F G : Nat → Prop} {a b c : World}
theorem Turn.refl (F : Nat → Prop) (w : World) : Turn F w w := ⟨rfl, rfl, rfl, Nat.le_refl _, fun _ _ _ => rfl⟩
theorem Turn.trans (h : Turn F a b) (k : Turn G b c) (hg : ∀ i, G i → F i ∨ a.heap.size ≤ i) : Turn F a c :=
  ⟨k.os.trans h.os, k.tape.trans h.tape, k.output.trans h.output, Nat.le_trans h.size k.size, fun i hi hn =>
    (k.block i (Nat.lt_of_lt_of_le hi h.size) (fun q => (hg i q).elim hn (fun q => by omega))).trans (h.block i hi hn)⟩
theorem Turn.and (h : Turn F a b) (k : Turn F b c) : Turn F a c := h.trans k fun _ q => .inl q
theorem Turn.mono (h : Turn F a b) (hg : ∀ i, F i → G i) : Turn G a b := ⟨h.os, h.tape, h.output, h.size, fun i hi hn => h.block i hi fun q => hn (hg i q)⟩
theorem Turn.grow (h : Grow a b) (F : Nat → Prop) : Turn F a b := ⟨h.os, h.tape, h.output, h.size, fun i hi _ => h.block i hi⟩
theorem Turn.andGrow (h : Turn F a b) (k : Grow b c) : Turn F a c := h.and (Turn.grow k F)
theorem Turn.grown {row : Option Nat} (h : a.grownBy b row) (hr : ∀ j, row = some j → F j) : Turn F a b := ⟨h.os, h.tape, h.output, h.size, fun i hi hn => h.block i hi fun q => hn (hr i q.symm)⟩
theorem Turn.low {B : Nat} (h : Turn F a b) (hF : ∀ i, F i → B ≤ i) (hB : B ≤ a.heap.size) : Below B a b := ⟨h.os, h.tape, h.output, h.size, fun i hi => h.block i (by omega) fun q => by have := hF i q; omega⟩
theorem Turn.setCell (w : World) {p : Addr} (hp : F p.block) (v : Value) : Turn F w (w.setCell p v) := ⟨rfl, rfl, rfl, by simp, fun i _ hn => Below.heap_setCell _ _ _ _ fun e => hn (e ▸ hp)⟩
theorem Turn.cell (h : Turn F a b) {p : Addr} (hp : p.block < a.heap.size) (hn : ¬ F p.block) : b.cell? p = a.cell? p := World.cell?_of_block (h.block _ hp hn)
theorem Turn.frozen (h : Turn F a b) {p : Addr} (hp : p.block < a.heap.size) (hn : ¬ F p.block) : b.frozen? p = a.frozen? p := World.frozen?_of_block (h.block _ hp hn)
end

/-- Block g is a row of n elements of 'size' cells, room for c: the cells xs. -/
def CR (w : World) (g : Nat) (e : TypeId) (size n c : Nat) (xs : List Value) : Prop := xs.length = n * size ∧ n ≤ c ∧ c ≤ maxLen ∧ ∃ cur, w.heap[g]? = some (.cells cur e) ∧ cur.size = c * size ∧ cur.toList.take (n * size) = xs
section
variable {w w' : World} {g size n c base : Nat} {e : TypeId} {xs : List Value} {F : Nat → Prop}
theorem CR.row (h : CR w g e size n c xs) (hb : base ≤ g) : w.ownsRow base e size (.slice (some ⟨g, 0, none⟩) n c) n xs := by
  obtain ⟨h1, h2, h3, cur, h4, h5, h6⟩ := h
  exact ⟨h1, .inr ⟨g, c, cur, rfl, hb, h4, h2, h3, h5, h6⟩⟩
theorem CR.of_row (h : w.ownsRow base e size (.slice (some ⟨g, 0, none⟩) n c) n xs) : CR w g e size n c xs := by
  rcases h.2 with ⟨h0, _⟩ | ⟨g', c', cur, hv, _, h4, h2, h3, h5, h6⟩
  · cases h0
  · injection hv with e1 e2 e3
    injection e1 with e1
    injection e1 with e1
    subst e1 e3
    exact ⟨h.1, h2, h3, cur, h4, h5, h6⟩
theorem CR.lt (h : CR w g e size n c xs) : g < w.heap.size := by
  obtain ⟨_, _, _, cur, h4, _⟩ := h
  exact (Array.getElem?_eq_some_iff.1 h4).1
theorem CR.same (h : CR w g e size n c xs) (hk : w'.heap[g]? = w.heap[g]?) : CR w' g e size n c xs := by
  obtain ⟨h1, h2, h3, cur, h4, h5⟩ := h
  exact ⟨h1, h2, h3, cur, hk.trans h4, h5⟩
theorem CR.turn (h : CR w g e size n c xs) (t : Turn F w w') (hg : ¬ F g) : CR w' g e size n c xs := h.same (t.block g h.lt hg)
theorem CR.cell (h : CR w g e size n c xs) {j : Nat} {u : Value} (hj : xs[j]? = some u) : w.cell? ⟨g, j, none⟩ = some u := by
  have := World.ownsRow.cells (h.row (Nat.zero_le _)) (g := g) rfl j u hj
  simpa [Addr.add_lit] using this
theorem CR.frozen (h : CR w g e size n c xs) (j : Nat) : w.frozen? ⟨g, j, none⟩ = false := World.ownsRow.frozenAt (h.row (Nat.zero_le _)) j
theorem CR.set (h : CR w g e size n c xs) (j : Nat) (v : Value) : CR (w.setCell ⟨g, j, none⟩ v) g e size n c (xs.set j v) := CR.of_row (World.ownsRow.stored (h.row (Nat.zero_le _)) j v).1
theorem CR.set_ne (h : CR w g e size n c xs) {p : Addr} (hp : p.block ≠ g) (v : Value) : CR (w.setCell p v) g e size n c xs := h.same (Below.heap_setCell _ _ _ _ (Ne.symm hp))
theorem CR.alloc (h : CR w g e size n c xs) (o : Obj) : CR (w.alloc o) g e size n c xs := h.turn (Turn.grow ((Grow.refl w).alloc o) fun _ => False) (fun q => q)
end

/-! ### the set -/
theorem pigeon : ∀ (N : Nat) (l : List Nat), l.Nodup → (∀ x ∈ l, x < N) → l.length ≤ N := by
  intro N
  induction N with
  | zero => intro l _ h; cases l with | nil => simp | cons x l => exact absurd (h x (by simp)) (by omega)
  | succ N ih =>
    intro l hn h
    by_cases hm : N ∈ l
    · have h1 := ih (l.erase N) (hn.erase N) (fun x hx => by
        have h2 := hn.mem_erase_iff.1 hx
        have := h x h2.2
        omega)
      rw [List.length_erase_of_mem hm] at h1
      omega
    · have := ih l hn (fun x hx => by
        have h1 := h x hx
        have h2 : x ≠ N := fun e => hm (e ▸ hx)
        omega)
      omega

def keyL (k : Nat) : Lit := .int .i64 (k : Int)
theorem int_keyed' : Keyed Try.prog 3 := int_keyed Try.underlying3
/-- Block b is a map that has just the numbers at which A is true, each below A's length. -/
def SetIs (w : World) (b : Nat) (A : List Bool) : Prop := ∃ D : DataW Unit, w.ownsMap Try.prog 3 (plainElem Try.prog 4) b A.length D ∧ ∀ kl, Maps.has D kl = true ↔ ∃ k, kl = keyL k ∧ A[k]? = some true

theorem owns_shrink {w : World} {b n N : Nat} {D : DataW Unit} (h : w.ownsMap Try.prog 3 (plainElem Try.prog 4) b n D) (hk : ∀ kl, Maps.has D kl = true → ∃ k, kl = keyL k ∧ k < N) : w.ownsMap Try.prog 3 (plainElem Try.prog 4) b N D := by
  obtain ⟨es, hD, hp, hl⟩ := h.entries int_keyed'
  have hsz : es.length ≤ N := by
    have hnat : ∀ p ∈ es, ∃ k : Nat, p.1 = keyL k ∧ k < N := fun p hm => hk p.1 (by rw [hD]; exact List.any_eq_true.2 ⟨p, hm, WideAt.sameKey_self (hl p hm)⟩)
    let f : Lit × DataW Unit → Nat := fun p => match p.1 with | .int _ z => z.toNat | _ => 0
    have hf : ∀ p ∈ es, p.1 = keyL (f p) ∧ f p < N := by
      intro p hm
      obtain ⟨k, h1, h2⟩ := hnat p hm
      have : f p = k := by simp [f, h1, keyL]
      rw [this]; exact ⟨h1, h2⟩
    have := pigeon N (es.map f) (by
      refine List.pairwise_map.2 (List.Pairwise.imp_of_mem ?_ hp)
      intro p q hpm hqm hne he
      exact hne (by rw [(hf p hpm).1, (hf q hqm).1, he])) (fun x hx => by
      obtain ⟨p, hm, rfl⟩ := List.mem_map.1 hx
      exact (hf p hm).2)
    simpa using this
  obtain ⟨es', clock, h1, h2, h3, h4⟩ := h
  refine ⟨es', clock, h1, h2, ?_, h4⟩
  rw [h4] at hD
  injection hD with hD
  rw [← hD, length_sorted] at hsz
  simpa using hsz

theorem SetIs.made (w : World) (N : Nat) : SetIs (w.alloc (.map #[] 0)) w.heap.size (List.replicate N false) := by
  refine ⟨_, (World.ownsMap_made w _ _ _).mono (Nat.zero_le _), fun kl => ?_⟩
  simp [Maps.has, List.getElem?_replicate]
theorem SetIs.kept {w w' : World} {b : Nat} {A : List Bool} (h : SetIs w b A) (hk : w'.heap[b]? = w.heap[b]?) : SetIs w' b A := by
  obtain ⟨D, ⟨es, clock, h1, h2⟩, h3⟩ := h
  exact ⟨D, ⟨es, clock, hk.trans h1, h2⟩, h3⟩
theorem SetIs.lt {w : World} {b : Nat} {A : List Bool} (h : SetIs w b A) : b < w.heap.size := by obtain ⟨D, h, _⟩ := h; exact h.lt
theorem SetIs.turn {w w' : World} {F : Nat → Prop} {b : Nat} {A : List Bool} (h : SetIs w b A) (t : Turn F w w') (hg : ¬ F b) : SetIs w' b A := h.kept (t.block b h.lt hg)
theorem set_get (A : List Bool) (k j : Nat) (v : Bool) (hk : k < A.length) : (A.set k v)[j]? = if j = k then some v else A[j]? := by
  by_cases e : j = k
  · subst e; simp [hk]
  · rw [List.getElem?_set_ne (Ne.symm e), if_neg e]
theorem keyL_inj {a b : Nat} (h : keyL a = keyL b) : a = b := by
  unfold keyL at h
  injection h with _ h
  omega
theorem keyL_is (k : Nat) : WideAt.IsKeyLit (keyL k) := trivial

section
variable {w : World} {ops : Array Oper} {rest : List Oper} {o : Oper} {a : Act} {Q : Exit → Act → World → Prop} {b : Nat} {A : List Bool}
/-- 'm[k] = true'. -/
theorem wpList_setPut (hg : o.guard = none) (m x v : Operand) (hop : o.op = Op.mapUpdate 80 m x v) (hm : a.eval m = .map (some b)) (h : SetIs w b A) (k : Nat) (hk : k < A.length) (hA : A.length ≤ 1000000) (hx : a.eval x = .int .i64 (k : Int)) (hv : a.eval v = .bool true)
    (hK : ∀ w', SetIs w' b (A.set k true) → w.grownBy w' (some b) → wpList Try.prog ops Q rest (a.put o.dst undef) w') : wpList Try.prog ops Q (o :: rest) a w := by
  obtain ⟨D, h1, h2⟩ := h
  refine wpList_mapUpdate_in w hg m x v 80 hop 3 4 int_keyed' Try.underlying80 _ b A.length D hm h1 (by unfold maxLen; omega) _ _ (keyL k) hx hv (keyOf_int_mk Try.underlying3 (WalkArith.wf_i64 (by omega))) _ [] (plainElem_bool Try.underlying4 true) ?_
  intro w' h3 h4
  have hh : ∀ kl, Maps.has (D.put (keyL k) (.lit (.bool true))) kl = true ↔ ∃ j, kl = keyL j ∧ (A.set k true)[j]? = some true := by
    intro kl
    by_cases e : kl = keyL k
    · subst e
      rw [Maps.has_put_same h1.isMap (keyL_is k)]
      exact ⟨fun _ => ⟨k, rfl, by rw [set_get A k k true hk, if_pos rfl]⟩, fun _ => rfl⟩
    · rw [Maps.has_put_other e, h2]
      constructor
      · rintro ⟨j, rfl, hj⟩
        refine ⟨j, rfl, ?_⟩
        rw [set_get A k j true hk, if_neg (fun q => e (by rw [q]))]
        exact hj
      · rintro ⟨j, rfl, hj⟩
        refine ⟨j, rfl, ?_⟩
        rw [set_get A k j true hk, if_neg (fun q => e (by rw [q]))] at hj
        exact hj
  refine hK w' ⟨_, owns_shrink h3 (fun kl hkl => ?_), hh⟩ h4.grown
  obtain ⟨j, h5, h6⟩ := (hh kl).1 hkl
  exact ⟨j, h5, (List.getElem?_eq_some_iff.1 h6).1⟩
theorem has_del {D : DataW Unit} (h2 : ∀ kl, Maps.has D kl = true ↔ ∃ k, kl = keyL k ∧ A[k]? = some true) {k : Nat} (hk : k < A.length) : ∀ kl, Maps.has (D.del (keyL k)) kl = true ↔ ∃ j, kl = keyL j ∧ (A.set k false)[j]? = some true := by
  intro kl
  by_cases e : kl = keyL k
  · subst e
    rw [Maps.has_del_same]
    constructor
    · intro h; cases h
    · rintro ⟨j, h3, h4⟩
      have := keyL_inj h3
      subst this
      rw [set_get A k k false hk, if_pos rfl] at h4
      cases h4
  · rw [Maps.has_del_other e, h2]
    constructor
    · rintro ⟨j, rfl, hj⟩
      refine ⟨j, rfl, ?_⟩
      rw [set_get A k j false hk, if_neg (fun q => e (by rw [q]))]
      exact hj
    · rintro ⟨j, rfl, hj⟩
      refine ⟨j, rfl, ?_⟩
      rw [set_get A k j false hk, if_neg (fun q => e (by rw [q]))] at hj
      exact hj
/-- 'delete(m, k)'. -/
theorem wpList_setDel (hg : o.guard = none) (m x : Operand) (hop : o.op = Op.call { callee := Callee.builtin Builtin.delete, args := #[m, x], argTypes := #[80, 3] }) (hm : a.eval m = .map (some b)) (h : SetIs w b A) (k : Nat) (hk : k < A.length) (hk2 : k ≤ 1000000) (hx : a.eval x = .int .i64 (k : Int))
    (hK : ∀ w', SetIs w' b (A.set k false) → w.grownBy w' (some b) → w'.heap.size = w.heap.size → wpList Try.prog ops Q rest (a.put o.dst (.tuple #[])) w') : wpList Try.prog ops Q (o :: rest) a w := by
  obtain ⟨D, h1, h2⟩ := h
  refine wpList_delete_own w hg m x 80 3 hop 4 int_keyed' Try.underlying80 _ b A.length D hm h1 _ (keyL k) hx (keyOf_int_mk Try.underlying3 (WalkArith.wf_i64 (by omega))) ?_
  intro w' h3 h4
  refine hK w' ⟨_, by rw [List.length_set]; exact h3, has_del h2 hk⟩ h4.grown ?_
  obtain ⟨es, clock, es', clock', _, rfl⟩ := h4
  simp [Go.ChangeMaps.setBlock]
end
end Go.Proofs.Ytncjfljmnkfghaa

namespace Go.Proofs.Ytncjfljmnkfghaa

/-- A record that may be (its data's length alone). -/
def mayR (call inode : Int) (tr : Bool) (off : Int) (n : Nat) : Bool :=
  decide (0 ≤ call ∧ call ≤ 1099511627776 ∧ 1 ≤ inode ∧ inode ≤ 32 ∧ 0 ≤ off ∧ off ≤ 256 ∧ n ≤ 64 ∧ off + n ≤ 256 ∧ (tr = true → n = 0))

theorem mayR_iff {call inode off : Int} {tr : Bool} {n : Nat} : mayR call inode tr off n = true ↔
    0 ≤ call ∧ call ≤ 1099511627776 ∧ 1 ≤ inode ∧ inode ≤ 32 ∧ 0 ≤ off ∧ off ≤ 256 ∧ n ≤ 64 ∧ off + n ≤ 256 ∧ (tr = true → n = 0) := by rw [mayR, decide_eq_true_iff]

/-- Numbers of a width, one behind the other. -/
def putsB (bs : List UInt8) (x : Int) (ns : List Int) : List UInt8 := ns.foldl (fun b n => putB b n x) bs

theorem putsB_take (bs : List UInt8) (x : Int) (ns : List Int) (k : Nat) (h : k < ns.length) : putsB bs x (ns.take (k + 1)) = putB (putsB bs x (ns.take k)) ns[k] x := by
  rw [putsB, List.take_succ_eq_append_getElem h, List.foldl_append]
  rfl

theorem putsB_length (bs : List UInt8) (x : Int) (ns : List Int) : (putsB bs x ns).length ≤ bs.length + 8 * ns.length := by
  induction ns generalizing bs with
  | nil => simp [putsB]
  | cons n ns ih =>
    have h := ih (putB bs n x)
    have h2 := putB_length bs n x
    rw [putsB, List.foldl_cons]
    rw [putsB] at h
    simp only [List.length_cons]
    omega

/-- Numbers that fit, one behind the other. -/
def putsF (bs : List UInt8) (x : Nat) (ns : List Int) : List UInt8 := bs ++ (ns.map fun n => leB n.toNat x).flatten
theorem putsF_take (bs : List UInt8) (x : Nat) (ns : List Int) (k : Nat) (h : k < ns.length) : putsF bs x (ns.take (k + 1)) = putsF bs x (ns.take k) ++ leB ns[k].toNat x := by
  rw [putsF, putsF, List.take_succ_eq_append_getElem h, List.map_append, List.flatten_append, List.append_assoc]
  simp
theorem putsF_length (bs : List UInt8) (x : Nat) (ns : List Int) : (putsF bs x ns).length = bs.length + x * ns.length := by
  unfold putsF
  induction ns with
  | nil => simp
  | cons n ns ih =>
    rw [List.map_cons, List.flatten_cons, List.length_append, List.length_append, leB_length, List.length_cons, Nat.mul_add]
    rw [List.length_append] at ih
    omega

theorem putB_fits {bs : List UInt8} {n x : Int} (h : fitsB n x = true) : putB bs n x = bs ++ leB n.toNat x.toNat := by simp [putB, h]

/-- The 13 bytes ahead of a record's data. -/
def headB (call inode : Int) (tr : Bool) (off : Int) (n : Nat) : List UInt8 :=
  leB call.toNat 8 ++ leB inode.toNat 1 ++ leB (if tr then 1 else 0) 1 ++ leB off.toNat 2 ++ leB n 1

theorem headB_length (call inode : Int) (tr : Bool) (off : Int) (n : Nat) : (headB call inode tr off n).length = 13 := by simp [headB, leB_length]

/-- How many noughts fill bytes up to a multiple of eight. -/
def fillN (n : Nat) : Nat := (8 - n % 8) % 8

/-- A record's bytes. -/
def encB (call inode : Int) (tr : Bool) (off : Int) (s : List UInt8) : List UInt8 :=
  headB call inode tr off s.length ++ s ++ leB (crcN (headB call inode tr off s.length ++ s)) 4 ++ List.replicate (fillN (17 + s.length)) 0

end Go.Proofs.Ytncjfljmnkfghaa
