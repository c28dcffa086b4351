/- Steps over slices of bytes and rows, in words that last from call to call (the part that asks for no function of the program). commonsref02.Sum, and a constant text's block. Numbers within bytes, and sums behind bytes: plain words. Steps over slices of bytes: what is handed out and what is read, in words that last from call to call. No statement of the seat is proved here. -/
import Derived.Test.YtgjcpchlijpjmaaZ03
import Derived.Deep.Onto
import Derived.Test.YtgjcpchlijpjmaaZ01
import Derived.Test.YtgjcpchlijpjmaaZ02
namespace Go.Proofs.Ytgjcpchlijpjmaa
open Go.RowKit

theorem RB.lit' (w : World) (t : TypeId) (cs : Array Value) (fz : Nat × Nat) (bs : List UInt8) (h : cs = (bvs bs).toArray) : RB (w.alloc (.cells cs t fz)) (w.alloc (.cells cs t fz)).heap.size (some ⟨w.heap.size, 0, none⟩) bs := by
  subst h
  refine ⟨by simp [bvs], fun _ => ⟨_, _, rfl, by simp, fun j u hu => ?_⟩⟩
  rw [cell_of_row _ _ (0 + j) (bvs bs).toArray t fz (heap_alloc_new w _)]
  simpa using hu

/-- What was there is as it was. -/
def Grow (w w' : World) : Prop := Below w.heap.size w w'
section
variable {a b c w w' : World} {A : Option Addr} {n : Nat} {bs : List UInt8}
theorem Grow.refl (w : World) : Grow w w := Below.refl _ _
theorem Grow.size (h : Grow a b) : a.heap.size ≤ b.heap.size := Below.size h
theorem Grow.trans (h : Grow a b) (g : Grow b c) : Grow a c := Below.trans h (Below.mono g (Below.size h))
theorem Grow.low (h : Grow a b) (g : Below a.heap.size b c) : Grow a c := Below.trans h g
theorem Grow.alloc (h : Grow a b) (o : Obj) : Grow a (b.alloc o) := Below.alloc h (Below.size h) o
theorem Grow.drew (h : Grow a b) : Grow a b.drew := Below.drew h
theorem Grow.drewN (h : Grow a b) (k : Nat) : Grow a (b.drewN k) := below_drewN h k
theorem Grow.setCell (h : Grow a b) {p : Addr} (hp : a.heap.size ≤ p.block) (v : Value) : Grow a (b.setCell p v) := Below.setCell h hp v
theorem Grow.ofBelow {B : Nat} (h : Below B a b) (hB : B = a.heap.size) : Grow a b := by subst hB; exact h
theorem Grow.cells (h : Grow a b) : (∀ k o, k < a.heap.size → b.cell? ⟨k, o, none⟩ = a.cell? ⟨k, o, none⟩) ∧ (∀ k o, k < a.heap.size → b.frozen? ⟨k, o, none⟩ = a.frozen? ⟨k, o, none⟩) :=
  ⟨fun k o hk => Below.cell h (p := ⟨k, o, none⟩) hk, fun k o hk => Below.frozen h (p := ⟨k, o, none⟩) hk⟩
theorem Grow.cell (h : Grow a b) {p : Addr} {v : Value} (hc : a.cell? p = some v) : b.cell? p = some v := by
  obtain ⟨k, o, s⟩ := p
  have hs := World.cell?_spot hc
  simp at hs
  subst hs
  have := World.block_lt_of_cell? a _ hc
  exact (Below.cell h (p := ⟨k, o, none⟩) this).trans hc

theorem setCell_again (w : World) (b o : Nat) (v v' : Value) : (w.setCell ⟨b, o, none⟩ v).setCell ⟨b, o, none⟩ v' = w.setCell ⟨b, o, none⟩ v' := by
  unfold World.setCell
  congr 1
  apply Array.ext
  · simp
  · intro i h1 h2
    simp only [Array.getElem_modify]
    split
    · cases w.heap[i]'(by simpa using h2) <;> simp
    · rfl

theorem cell_set_eq {w : World} {p : Addr} {u v : Value} (h : w.cell? p = some u) : (w.setCell p v).cell? p = some v := World.cell?_setCell_same _ _ _ h
theorem cell_set_ne {w : World} {p q : Addr} {u v : Value} (h : w.cell? q = some v) (hn : p.block ≠ q.block) : (w.setCell p u).cell? q = some v := (World.cell?_setCell_other _ _ _ _ fun e => hn (by rw [e])).trans h
theorem cell_alloc {w : World} {o : Obj} {p : Addr} {v : Value} (h : w.cell? p = some v) : (w.alloc o).cell? p = some v := ((Grow.refl w).alloc o).cell h

/-- A slice of n bytes that is read in this world. -/
def Sl (w : World) (A : Option Addr) (n : Nat) (bs : List UInt8) : Prop := bs.length = n ∧ n ≤ 1073741000 ∧ RB w w.heap.size A bs
theorem Sl.keep (h : Sl w A n bs) (g : Grow w w') : Sl w' A n bs := ⟨h.1, h.2.1, (h.2.2.below g).more (Below.size g)⟩
theorem Sl.alloc (h : Sl w A n bs) (o : Obj) : Sl (w.alloc o) A n bs := h.keep ((Grow.refl w).alloc o)
theorem Sl.drewN (h : Sl w A n bs) (k : Nat) : Sl (w.drewN k) A n bs := h.keep ((Grow.refl w).drewN k)
theorem Sl.drew (h : Sl w A n bs) : Sl w.drew A n bs := h.keep ((Grow.refl w).drew)
theorem Sl.nil : Sl w A 0 [] := ⟨rfl, by omega, RB.nil_⟩
theorem Sl.len (h : Sl w A n bs) : bs.length = n := h.1
theorem Sl.take (h : Sl w A n bs) {k : Nat} (hk : k ≤ n) : Sl w A k (bs.take k) := ⟨by have := h.1; simp; omega, by have := h.2.1; omega, h.2.2.take (by have := h.1; omega)⟩
theorem Sl.ofRB (h : RB w w.heap.size A bs) (hn : bs.length = n) (hl : n ≤ 1073741000) : Sl w A n bs := ⟨hn, hl, h⟩
theorem Sl.ofTake (h : RB w w.heap.size A bs) (hn : n ≤ bs.length) (hl : n ≤ 1073741000) : Sl w A n (bs.take n) := ⟨by simp; omega, hl, h.take hn⟩
theorem Sl.drop (h : Sl w A n bs) {k c : Nat} (hk : k ≤ n) (hc : n ≤ c) : Sl w (if c = k then A else A.map (·.add k)) (n - k) (bs.drop k) :=
  ⟨by have := h.1; simp; omega, by have := h.2.1; omega, h.2.2.drop (by have := h.1; omega) (by have := h.1; omega)⟩
theorem Sl.cell (h : Sl w A n bs) {k : Nat} (hk : k < n) : ∃ b o, A = some ⟨b, o, none⟩ ∧ b < w.heap.size ∧ w.cell? ⟨b, o + k, none⟩ = some (.int .u8 ((bs[k]'(by have := h.1; omega)).toNat : Int)) := h.2.2.at_ (by have := h.1; omega)
theorem Sl.all (h : Sl w A n bs) (h0 : 0 < n) : ∃ b o, A = some ⟨b, o, none⟩ ∧ b < w.heap.size ∧ ∀ k (hk : k < n), w.cell? ⟨b, o + k, none⟩ = some (.int .u8 ((bs[k]'(by have := h.1; omega)).toNat : Int)) := by
  obtain ⟨b, o, e, hb, hc⟩ := h.2.2.all (by have := h.1; omega)
  exact ⟨b, o, e, hb, fun k hk => hc k (by have := h.1; omega)⟩
theorem Sl.lit (w : World) (t : TypeId) (cs : Array Value) (bs : List UInt8) (n : Nat) (hn : bs.length = n) (h : cs = (bvs bs).toArray) (hl : n ≤ 1073741000) : Sl (w.alloc (.cells cs t)) (some ⟨w.heap.size, 0, none⟩) n bs :=
  ⟨hn, hl, by have := RB.lit w t cs bs h; simpa using this⟩

theorem Sl.litf (w : World) (t : TypeId) (cs : Array Value) (fz : Nat × Nat) (bs : List UInt8) (n : Nat) (hn : bs.length = n) (h : cs = (bvs bs).toArray) (hl : n ≤ 1073741000) : Sl (w.alloc (.cells cs t fz)) (some ⟨w.heap.size, 0, none⟩) n bs :=
  ⟨hn, hl, RB.lit' w t cs fz bs h⟩

/-- A slice of n bytes of the call's own: what lies below 'base' is none of it. -/
def Own (w : World) (base : Nat) (A : Option Addr) (n c : Nat) (bs : List UInt8) : Prop := bs.length = n ∧ n ≤ 1073741000 ∧ OB w base (.slice A n c) bs
theorem Own.sl {base c' : Nat} (h : Own w base A n c' bs) : Sl w A n bs := by
  obtain ⟨h1, h2, h3⟩ := h
  obtain ⟨A', c2, e, -, -, hr, -⟩ := h3.form
  injection e with e1 e2 e3
  subst e1
  exact ⟨h1, h2, hr⟩
theorem Own.low {base B : Nat} {c' : Nat} (h : Own w base A n c' bs) (hB : B ≤ base) : Own w B A n c' bs := ⟨h.1, h.2.1, World.ownsRow.mono h.2.2 hB⟩
theorem Own.cap {base : Nat} {c' : Nat} (h : Own w base A n c' bs) : n ≤ c' := by
  obtain ⟨A', c2, e, h1, -, -, -⟩ := h.2.2.form
  injection e with e1 e2 e3
  omega
theorem Own.row {base c' : Nat} (h : Own w base A n c' bs) (h0 : 0 < n) : ∃ g, A = some ⟨g, 0, none⟩ ∧ base ≤ g ∧ g < w.heap.size := by
  obtain ⟨h1, h2, h3⟩ := h
  obtain ⟨A', c2, e, -, -, hr, hb⟩ := h3.form
  injection e with e1 e2 e3
  subst e1
  obtain ⟨b, o, e, -⟩ := hr.2 (by omega)
  obtain ⟨q1, q2, q3⟩ := hb _ e
  injection q3 with q4 q5
  refine ⟨b, ?_, q1, q2⟩
  rw [e, q5]
theorem Own.alloc {base : Nat} {c' : Nat} (h : Own w base A n c' bs) (o : Obj) : Own (w.alloc o) base A n c' bs := ⟨h.1, h.2.1, h.2.2.alloc o⟩
theorem Own.ofOB {base : Nat} {v : Value} (h : OB w base v bs) (m : Nat) (hm : bs.length = m) (hl : m ≤ 1073741000) : ∃ A c, v = .slice A m c ∧ Own w base A m c bs := by
  obtain ⟨A, c, rfl, -, -, -, -⟩ := h.form
  exact ⟨A, c, by rw [hm], hm, hl, by rw [← hm]; exact h⟩
theorem Own.nil (w : World) (base : Nat) : Own w base none 0 0 [] := ⟨rfl, by omega, OB.nil w base⟩
end

/-- The cells of block g, from the first on. -/
def Blk (w : World) (g : Nat) (vs : List Value) : Prop := g < w.heap.size ∧ ∀ j v, vs[j]? = some v → w.cell? ⟨g, j, none⟩ = some v
theorem Blk.keep {w w' : World} {g : Nat} {vs : List Value} (h : Blk w g vs) (k : Grow w w') : Blk w' g vs := ⟨Nat.lt_of_lt_of_le h.1 k.size, fun j v hv => k.cell (h.2 j v hv)⟩
theorem Blk.below {w w' : World} {g B : Nat} {vs : List Value} (h : Blk w g vs) (k : Below B w w') (hg : g < B) : Blk w' g vs := ⟨Nat.lt_of_lt_of_le h.1 k.size, fun j v hv => (k.cell (p := ⟨g, j, none⟩) hg).trans (h.2 j v hv)⟩
theorem Blk.new (w : World) (t : TypeId) (vs : List Value) (cs : Array Value) (fz : Nat × Nat) (h : cs = vs.toArray) : Blk (w.alloc (.cells cs t fz)) w.heap.size vs := by
  subst h
  refine ⟨by simp, fun j v hv => ?_⟩
  rw [cell_of_row _ _ j vs.toArray t fz (heap_alloc_new w _)]
  simpa using hv
section
variable {w : World} {g : Nat} {a b c d e f : Value}
theorem Blk.c1 (h : Blk w g [a]) : w.cell? ⟨g, 0, none⟩ = some a := h.2 0 _ rfl
theorem Blk.c2 (h : Blk w g [a, b]) : w.cell? ⟨g, 0, none⟩ = some a ∧ w.cell? ⟨g, 1, none⟩ = some b := ⟨h.2 0 _ rfl, h.2 1 _ rfl⟩
theorem Blk.c3 (h : Blk w g [a, b, c]) : w.cell? ⟨g, 0, none⟩ = some a ∧ w.cell? ⟨g, 1, none⟩ = some b ∧ w.cell? ⟨g, 2, none⟩ = some c := ⟨h.2 0 _ rfl, h.2 1 _ rfl, h.2 2 _ rfl⟩
theorem Blk.c4 (h : Blk w g [a, b, c, d]) : w.cell? ⟨g, 0, none⟩ = some a ∧ w.cell? ⟨g, 1, none⟩ = some b ∧ w.cell? ⟨g, 2, none⟩ = some c ∧ w.cell? ⟨g, 3, none⟩ = some d := ⟨h.2 0 _ rfl, h.2 1 _ rfl, h.2 2 _ rfl, h.2 3 _ rfl⟩
theorem Blk.c5 (h : Blk w g [a, b, c, d, e]) : w.cell? ⟨g, 0, none⟩ = some a ∧ w.cell? ⟨g, 1, none⟩ = some b ∧ w.cell? ⟨g, 2, none⟩ = some c ∧ w.cell? ⟨g, 3, none⟩ = some d ∧ w.cell? ⟨g, 4, none⟩ = some e := ⟨h.2 0 _ rfl, h.2 1 _ rfl, h.2 2 _ rfl, h.2 3 _ rfl, h.2 4 _ rfl⟩
theorem Blk.c6 (h : Blk w g [a, b, c, d, e, f]) : w.cell? ⟨g, 0, none⟩ = some a ∧ w.cell? ⟨g, 1, none⟩ = some b ∧ w.cell? ⟨g, 2, none⟩ = some c ∧ w.cell? ⟨g, 3, none⟩ = some d ∧ w.cell? ⟨g, 4, none⟩ = some e ∧ w.cell? ⟨g, 5, none⟩ = some f := ⟨h.2 0 _ rfl, h.2 1 _ rfl, h.2 2 _ rfl, h.2 3 _ rfl, h.2 4 _ rfl, h.2 5 _ rfl⟩
end

theorem Blk.set_ne {w : World} {g : Nat} {vs : List Value} {p : Addr} {v : Value} (h : Blk w g vs) (hn : p.block ≠ g) : Blk (w.setCell p v) g vs := ⟨by simpa using h.1, fun j u hu => cell_set_ne (h.2 j u hu) hn⟩
theorem Blk.set {w : World} {g : Nat} {vs : List Value} {v : Value} (h : Blk w g vs) {j : Nat} (hj : j < vs.length) : Blk (w.setCell ⟨g, j, none⟩ v) g (vs.set j v) := by
  refine ⟨by simpa using h.1, fun i u hu => ?_⟩
  by_cases e : j = i
  · subst e
    obtain rfl : v = u := by simpa [List.getElem?_set, hj] using hu
    exact cell_set_eq (h.2 j _ (List.getElem?_eq_getElem hj))
  · rw [List.getElem?_set_ne e] at hu
    exact (World.cell?_setCell_other _ _ _ _ (fun e2 => e (by injection e2))).trans (h.2 i u hu)
/-- The cells of block g, none of them frozen. -/
def Row (w : World) (g : Nat) (vs : List Value) : Prop := Blk w g vs ∧ ∀ j, j < vs.length → w.frozen? ⟨g, j, none⟩ = false
theorem Row.keep {w w' : World} {g : Nat} {vs : List Value} (h : Row w g vs) (k : Grow w w') : Row w' g vs := ⟨h.1.keep k, fun j hj => (k.cells.2 g j h.1.1).trans (h.2 j hj)⟩
theorem Row.new (w : World) (t : TypeId) (vs : List Value) (cs : Array Value) (h : cs = vs.toArray) : Row (w.alloc (.cells cs t)) w.heap.size vs := by
  refine ⟨Blk.new w t vs cs (0, 0) h, fun j _ => ?_⟩
  exact frozen_of_row _ _ j _ t (heap_alloc_new w _)
theorem Row.set_ne {w : World} {g : Nat} {vs : List Value} {p : Addr} {v : Value} (h : Row w g vs) (hn : p.block ≠ g) : Row (w.setCell p v) g vs := ⟨h.1.set_ne hn, fun j hj => by simpa using h.2 j hj⟩
theorem Row.set {w : World} {g : Nat} {vs : List Value} {v : Value} (h : Row w g vs) {j : Nat} (hj : j < vs.length) : Row (w.setCell ⟨g, j, none⟩ v) g (vs.set j v) := ⟨h.1.set hj, fun i hi => by rw [List.length_set] at hi; simpa using h.2 i hi⟩

theorem ints_new (w : World) (t : TypeId) (ns : List Int) (cs : Array Value) (h : cs = (ns.map (Value.int .i64)).toArray) : ∀ j (_ : j < ns.length), (w.alloc (.cells cs t)).cell? ⟨w.heap.size, 0 + j, none⟩ = some (.int .i64 ns[j]) := by
  subst h
  intro j hj
  rw [cell_of_row _ _ (0 + j) (ns.map (Value.int .i64)).toArray t (0, 0) (heap_alloc_new w _)]
  simp [hj]

theorem ints_at (w : World) (t : TypeId) (b : Nat) (ns : List Int) (cs : Array Value) (hb : b = w.heap.size) (h : cs = (ns.map (Value.int .i64)).toArray) : ∀ j (_ : j < ns.length), (w.alloc (.cells cs t)).cell? ⟨b, 0 + j, none⟩ = some (.int .i64 ns[j]) := by
  subst hb
  exact ints_new w t ns cs h

theorem Own.lit (w : World) (cs : Array Value) (bs : List UInt8) (n base : Nat) (hn : bs.length = n) (h : cs = (bvs bs).toArray) (hl : n ≤ 1073741000) (hB : base ≤ w.heap.size) : Own (w.alloc (.cells cs 5)) base (some ⟨w.heap.size, 0, none⟩) n n bs := by
  subst hn h
  refine ⟨rfl, hl, ?_⟩
  unfold OB World.ownsRow
  refine ⟨by simp [bvs], .inr ⟨w.heap.size, bs.length, (bvs bs).toArray, rfl, hB, heap_alloc_new w _, Nat.le_refl _, by unfold maxLen; omega, by simp [bvs], ?_⟩⟩
  rw [List.take_of_length_le (by simp [bvs])]
theorem byte_int (n : Int) (h0 : 0 ≤ n) (h : n < 256) : ((UInt8.ofNat (n.toNat % 256)).toNat : Int) = n := by simp; omega
theorem pad_next (bs : List UInt8) (j : Nat) : bs ++ List.replicate j 0 ++ [0] = bs ++ List.replicate (j + 1) 0 := by
  rw [List.append_assoc, List.replicate_succ']
def lenV : Value → Nat
  | .slice _ n _ => n
  | _ => 0

end Go.Proofs.Ytgjcpchlijpjmaa

namespace Go.Proofs.Ytgjcpchlijpjmaa
open Go.RowKit
theorem ref2_sum (A : Option Addr) (bs : List UInt8) (n c : Nat) (hn : n = bs.length) (B : Nat) (w : World) (hb : RB w B A bs) (hl : bs.length ≤ 1073741824) :
    Calls Try.prog 40 #[.slice A n c] w fun e w' => e = .returned (.int .i64 (crcN bs : Nat)) ∧ w = w' := by
  subst hn
  obtain ⟨r0, hr0⟩ : ∃ r0 : Nat, r0 = 4294967295 := ⟨_, rfl⟩
  have hr0l : r0 < 2 ^ 32 := by omega
  have hr0i : (4294967295 : Int) = (r0 : Int) := by omega
  have hfin : (r0 : Int) - ((crcMore r0 bs : Nat) : Int) = ((crcN bs : Nat) : Int) := by
    have := crcMore_lt hr0l bs
    unfold crcN
    rw [← hr0]
    omega
  have hmr := crcMore_lt hr0l bs
  have HF := Lib.hid hfin
  have HR := Lib.hid hr0i
  clear hfin hr0 hr0i
  go_enter Try.func40, Try.ntmps40
  go_wp2_with fail
  rw [HR.out]
  refine (ref2_more r0 hr0l A bs bs.length c rfl B w hb hl).mono ?_
  rintro e w1 ⟨rfl, rfl⟩
  obtain ⟨q, hq⟩ : ∃ q, q = crcMore r0 bs := ⟨_, rfl⟩
  rw [← hq] at hmr HF ⊢
  clear hq
  go_wp2_with fail
  go_ret
  refine ⟨ret_int ?_, rfl⟩
  rw [← HF.out, ← HR.out]

end Go.Proofs.Ytgjcpchlijpjmaa

namespace Go.Proofs.Ytgjcpchlijpjmaa

theorem cut_next {α : Type} (c : List α) (a k : Nat) : c.drop a = (c.drop a).take k ++ c.drop (a + k) := by
  rw [← List.drop_drop]
  exact (List.take_append_drop k _).symm

/-- A number within bytes. -/
theorem get_mid {bs p q : List UInt8} {n : Int} {a wd : Nat} (hb : bs = p ++ (leB n.toNat wd ++ q)) (hp : p.length = a) (h : fitsB n wd = true) (h1 : n ≤ 9223372036854775807) : getN bs a wd = n ∧ getK bs a wd = true := by
  have hw := fits_width h
  have hpw := fits_pow h h1
  have h0 := fits_nat h
  subst hb hp
  have := get_small (bs := p ++ (leB n.toNat wd ++ q)) (a := p.length) (k := wd) (m := n.toNat) (by simp [isW]; omega) (by simp [leB_length])
    (by rw [List.drop_left, List.take_left' (leB_length _ _), leVal_leB, Nat.mod_eq_of_lt hpw]) (by omega)
  refine ⟨?_, this.2⟩
  rw [this.1]
  omega

theorem getO_congr {b c : List UInt8} {a wd : Nat} (hb : a + wd ≤ b.length) (hc : a + wd ≤ c.length) (h : (b.drop a).take wd = (c.drop a).take wd) : getO b a wd = getO c a wd := by
  unfold getO
  simp only [Int.toNat_natCast]
  rw [h]
  by_cases hw : isW (wd : Int) = true
  · have c1 : isW (wd : Int) = true ∧ 0 ≤ (a : Int) ∧ (a : Int) + wd ≤ b.length := ⟨hw, by omega, by omega⟩
    have c2 : isW (wd : Int) = true ∧ 0 ≤ (a : Int) ∧ (a : Int) + wd ≤ c.length := ⟨hw, by omega, by omega⟩
    rw [if_pos c1, if_pos c2]
  · have c1 : ¬ (isW (wd : Int) = true ∧ 0 ≤ (a : Int) ∧ (a : Int) + wd ≤ b.length) := fun h => hw h.1
    have c2 : ¬ (isW (wd : Int) = true ∧ 0 ≤ (a : Int) ∧ (a : Int) + wd ≤ c.length) := fun h => hw h.1
    rw [if_neg c1, if_neg c2]
theorem getO_take {b : List UInt8} {a wd m : Nat} (h : a + wd ≤ m) (hb : m ≤ b.length) : getO (b.take m) a wd = getO b a wd := by
  refine getO_congr (by simp; omega) (by omega) ?_
  rw [List.drop_take, List.take_take, Nat.min_eq_left (by omega)]
theorem getN_take {b : List UInt8} {a wd m : Nat} (h : a + wd ≤ m) (hb : m ≤ b.length) : getN (b.take m) a wd = getN b a wd := by unfold getN; rw [getO_take h hb]
theorem getK_take {b : List UInt8} {a wd m : Nat} (h : a + wd ≤ m) (hb : m ≤ b.length) : getK (b.take m) a wd = getK b a wd := by unfold getK; rw [getO_take h hb]

/-- A number of 4 bytes or fewer is always one. -/
theorem getK_small {b : List UInt8} {a wd : Nat} (hw : wd = 1 ∨ wd = 2 ∨ wd = 4) (h : a + wd ≤ b.length) : getK b a wd = true := by
  have hlt := leVal_lt ((b.drop a).take wd)
  rw [List.length_take, List.length_drop, Nat.min_eq_left (by omega)] at hlt
  refine (get_small (bs := b) (a := a) (k := wd) (by simp [isW]; omega) (by omega) rfl ?_).2
  rcases hw with rfl | rfl | rfl <;> simp at hlt <;> omega
theorem getK_range {b : List UInt8} {a wd : Nat} (h : getK b a wd = true) : a + wd ≤ b.length := by
  obtain ⟨a', wd', e1, e2, -, -, h3, -⟩ := put_get h
  omega
/-- The bytes of a number that is got. -/
theorem get_piece {b : List UInt8} {a wd : Nat} (h : getK b a wd = true) : (b.drop a).take wd = leB (getN b a wd).toNat wd := by
  obtain ⟨a', wd', e1, e2, -, -, -, -, h3, -⟩ := put_get h
  obtain rfl : a = a' := by omega
  obtain rfl : wd = wd' := by omega
  exact h3.symm
theorem get_range {b : List UInt8} {a wd : Nat} (h : getK b a wd = true) : fitsB (getN b a wd) wd = true ∧ 0 ≤ getN b a wd ∧ getN b a wd ≤ 9223372036854775807 := by
  obtain ⟨a', wd', e1, e2, -, -, -, h2, -, h4, h5⟩ := put_get h
  exact ⟨h2, h4, h5⟩
theorem get_any (b : List UInt8) (a wd : Int) : 0 ≤ getN b a wd ∧ getN b a wd ≤ 9223372036854775807 := by
  cases h : getK b a wd with
  | true => obtain ⟨a', wd', e1, e2, -, -, -, h2, -, h4, h5⟩ := put_get h; exact ⟨h4, h5⟩
  | false => rw [get_no h]; omega
theorem get_byte {b : List UInt8} {a : Nat} (h : a < b.length) : getN b a 1 = (b[a].toNat : Int) := by
  have e : (b.drop a).take 1 = [b[a]] := by
    rw [List.drop_eq_getElem_cons h]; rfl
  have := (get_small (bs := b) (a := a) (k := 1) (m := b[a].toNat) (by decide) (by omega) (by rw [e]; simp [leVal]) (by have := b[a].toNat_lt; omega)).1
  simpa using this
theorem get_lt {b : List UInt8} {a wd : Nat} (hw : wd = 1 ∨ wd = 2 ∨ wd = 4) : getN b a wd < 256 ^ wd := by
  cases h : getK b a wd with
  | true =>
    have := (get_range h).1
    obtain ⟨z, hz⟩ : ∃ z, z = getN b a wd := ⟨_, rfl⟩
    rw [← hz] at this ⊢
    simp only [fitsB, decide_eq_true_eq] at this
    rcases hw with rfl | rfl | rfl <;> simp <;> omega
  | false => rw [get_no h]; rcases hw with rfl | rfl | rfl <;> simp

/-- Bytes and their sum behind them. -/
def sumB (p : List UInt8) : List UInt8 := p ++ leB (crcN p) 4
theorem sumB_length (p : List UInt8) : (sumB p).length = p.length + 4 := by simp [sumB, leB_length]
theorem fits_crc (p : List UInt8) : fitsB ((crcN p : Nat) : Int) 4 = true := by
  have := crcN_lt p
  simp [fitsB]; omega
theorem sumB_get (p q : List UInt8) : getN (sumB p ++ q) p.length 4 = (crcN p : Nat) := by
  have := crcN_lt p
  refine (get_mid (p := p) (q := q) (n := ((crcN p : Nat) : Int)) (wd := 4) ?_ rfl (fits_crc p) (by omega)).1
  simp [sumB]
theorem sumB_get' (p : List UInt8) : getN (sumB p) p.length 4 = (crcN p : Nat) := by simpa using sumB_get p []
theorem sumB_take (p q : List UInt8) : (sumB p ++ q).take p.length = p := by simp [sumB]
/-- Bytes whose sum is right are a sealed text. -/
theorem sum_right {b : List UInt8} {m : Nat} (h : m + 4 ≤ b.length) (hs : getN b m 4 = (crcN (b.take m) : Nat)) : b.take (m + 4) = sumB (b.take m) := by
  have hp := get_piece (getK_small (b := b) (a := m) (wd := 4) (.inr (.inr rfl)) h)
  rw [sumB, List.take_add, hp, show getN b m ((4 : Nat) : Int) = getN b m 4 from rfl, hs]
  simp

theorem set_split {α : Type} {l : List α} {k : Nat} (h : k < l.length) (x : α) : l.set k x = l.take k ++ x :: l.drop (k + 1) := List.set_eq_take_append_cons_drop.trans (by rw [if_pos h])
theorem leVal_inj {a b : List UInt8} (hl : a.length = b.length) (h : leVal a = leVal b) : a = b := by rw [← leB_leVal a, ← leB_leVal b, h, hl]
theorem crcN_set {p : List UInt8} {k : Nat} (h : k < p.length) {x : UInt8} (hx : x ≠ p[k]) : crcN (p.set k x) ≠ crcN p := by
  intro e
  have hp : p = p.take k ++ p[k] :: p.drop (k + 1) := by
    rw [← List.drop_eq_getElem_cons h, List.take_append_drop]
  rw [set_split h] at e
  have e2 : crcN (p.take k ++ x :: p.drop (k + 1)) = crcN (p.take k ++ p[k] :: p.drop (k + 1)) := by rw [← hp]; exact e
  exact hx (crcN_turned _ _ _ _ e2)
/-- A sealed text of which one byte is turned has no right sum. -/
theorem sum_turned {p : List UInt8} {k : Nat} (hk : k < (sumB p).length) {x : UInt8} (hx : x ≠ (sumB p)[k]) :
    getN ((sumB p).set k x) p.length 4 ≠ (crcN (((sumB p).set k x).take p.length) : Nat) := by
  intro e
  have hlen : ((sumB p).set k x).length = p.length + 4 := by rw [List.length_set, sumB_length]
  have hpc := get_piece (getK_small (b := (sumB p).set k x) (a := p.length) (wd := 4) (.inr (.inr rfl)) (by omega))
  rw [show getN ((sumB p).set k x) p.length ((4 : Nat) : Int) = getN ((sumB p).set k x) p.length 4 from rfl, e] at hpc
  by_cases h : k < p.length
  · have e1 : ((sumB p).set k x).take p.length = p.set k x := by
      rw [sumB, List.set_append_left _ _ h, List.take_left' (by simp)]
    have e2 : (((sumB p).set k x).drop p.length).take 4 = leB (crcN p) 4 := by
      rw [sumB, List.set_append_left _ _ h, List.drop_left' (by simp), List.take_of_length_le (by simp [leB_length])]
    rw [e1, e2] at hpc
    have h1 := crcN_lt p
    have h2 := crcN_lt (p.set k x)
    have := (leB_inj (n := ((crcN p : Nat) : Int)) (m := ((crcN (p.set k x) : Nat) : Int)) (wd := 4) (fits_crc _) (fits_crc _) (by omega) (by omega)).1 (by simpa using hpc)
    refine crcN_set h (x := x) ?_ (by omega)
    intro e3
    exact hx (by rw [e3]; simp [sumB, h])
  · have e1 : ((sumB p).set k x).take p.length = p := by
      rw [sumB, List.set_append_right _ _ (by omega), List.take_left]
    have e2 : (((sumB p).set k x).drop p.length).take 4 = (leB (crcN p) 4).set (k - p.length) x := by
      rw [sumB, List.set_append_right _ _ (by omega), List.drop_left, List.take_of_length_le (by simp [leB_length])]
    rw [e1, e2] at hpc
    rw [sumB_length] at hk
    have h4 : k - p.length < (leB (crcN p) 4).length := by rw [leB_length]; omega
    have := congrArg (fun l => l[k - p.length]?) hpc
    simp only [List.getElem?_set, h4, if_true, Int.toNat_natCast, List.getElem?_eq_getElem h4, Option.some.injEq] at this
    apply hx
    rw [this]
    simp only [sumB]
    rw [List.getElem_append_right (by omega)]
theorem xor_ne {a b : UInt8} (h : b ≠ 0) : a ^^^ b ≠ a := by
  intro e
  apply h
  have : a ^^^ (a ^^^ b) = a ^^^ a := by rw [e]
  rwa [← UInt8.xor_assoc, UInt8.xor_self, UInt8.zero_xor] at this

/-- Noughts within bytes. -/
def zerosB (b : List UInt8) (lo hi : Nat) : Bool := decide ((b.drop lo).take (hi - lo) = List.replicate (hi - lo) 0)
theorem zeros_iff {b : List UInt8} {lo hi : Nat} (h : hi ≤ b.length) : zerosB b lo hi = true ↔ ∀ i, lo ≤ i → (hi' : i < hi) → b[i] = 0 := by
  rw [zerosB, decide_eq_true_iff]
  constructor
  · intro e i h1 h2
    have := congrArg (fun l => l[i - lo]?) e
    simp only [List.getElem?_take, List.getElem?_drop, List.getElem?_replicate] at this
    rw [if_pos (by omega), if_pos (by omega), show lo + (i - lo) = i by omega, List.getElem?_eq_getElem (by omega)] at this
    simpa using this
  · intro e
    apply List.ext_getElem
    · simp; omega
    · intro j h1 h2
      simp only [List.getElem_take, List.getElem_drop, List.getElem_replicate]
      simp at h2
      exact e (lo + j) (by omega) (by omega)
end Go.Proofs.Ytgjcpchlijpjmaa

namespace Go.Proofs.Ytgjcpchlijpjmaa
open Go.RowKit

/-- num.Put where the number fits. -/
theorem put_s {A : Option Addr} {n c : Nat} {bs : List UInt8} (m : Nat) {k x : Int} {w : World} (hs : Sl w A n bs) (hf : fitsB k x = true) (hk : k ≤ 9223372036854775807) (hm : n + x.toNat = m) (hl : m ≤ 1073741000) :
    Calls Try.prog 24 #[.slice A n c, .int .i64 k, .int .i64 x] w fun e w' => ∃ A' c', e = .returned (.slice A' m c') ∧ Own w' w.heap.size A' m c' (bs ++ leB k.toNat x.toNat) ∧ Grow w w' := by
  obtain ⟨rfl, hn, hr⟩ := hs
  have h0 := fits_nat hf
  refine (num_put A bs c k x (by omega) hk w hr (by omega)).mono ?_
  rintro e w' ⟨v, rfl, hown, hb⟩
  rw [putB, if_pos hf] at hown
  obtain ⟨A', c', rfl, h⟩ := Own.ofOB hown m (by rw [List.length_append, leB_length]; exact hm) hl
  exact ⟨A', c', rfl, h, hb⟩

/-- num.Get. -/
theorem get_s {A : Option Addr} {n c : Nat} {bs : List UInt8} {at_ x : Int} {w : World} (hs : Sl w A n bs) (h0 : -9223372036854775808 ≤ at_) (h1 : at_ ≤ 9223372036854775807) :
    Calls Try.prog 28 #[.slice A n c, .int .i64 at_, .int .i64 x] w fun e w' => e = .returned (.tuple #[.int .i64 (getN bs at_ x), .bool (getK bs at_ x)]) ∧ w = w' := by
  obtain ⟨rfl, hn, hr⟩ := hs
  exact num_get A bs c at_ x h0 h1 _ w hr (by omega)

/-- crc.Sum. -/
theorem sum_s {A : Option Addr} {n c : Nat} {bs : List UInt8} {w : World} (hs : Sl w A n bs) :
    Calls Try.prog 25 #[.slice A n c] w fun e w' => ∃ q : Nat, e = .returned (.int .u32 (q : Int)) ∧ Hid (q = crcN bs) ∧ q < 4294967296 ∧ Grow w w' := by
  obtain ⟨hn, hl, hr⟩ := hs
  refine (crc_sum A bs n c hn.symm w hr (by omega)).mono ?_
  rintro e w' ⟨rfl, hb⟩
  exact ⟨_, rfl, Lib.hid rfl, crcN_lt bs, hb⟩

/-- The reference's. -/
theorem rput_s {A : Option Addr} {n c : Nat} {bs : List UInt8} (m : Nat) {k x : Int} {w : World} (hs : Sl w A n bs) (hf : fitsB k x = true) (hk : k ≤ 9223372036854775807) (hm : n + x.toNat = m) (hl : m ≤ 1073741000) :
    Calls Try.prog 39 #[.slice A n c, .int .i64 k, .int .i64 x] w fun e w' => ∃ A' c', e = .returned (.slice A' m c') ∧ Own w' w.heap.size A' m c' (bs ++ leB k.toNat x.toNat) ∧ Grow w w' := by
  obtain ⟨rfl, hn, hr⟩ := hs
  refine (ref1_put A bs c k x w hr (by omega) hk).mono ?_
  rintro e w' ⟨v, rfl, hown, hb⟩
  rw [putB, if_pos hf] at hown
  obtain ⟨A', c', rfl, h⟩ := Own.ofOB hown m (by rw [List.length_append, leB_length]; exact hm) hl
  exact ⟨A', c', rfl, h, hb⟩
theorem rget_s {A : Option Addr} {n c : Nat} {bs : List UInt8} {at_ x : Int} {w : World} (hs : Sl w A n bs) (h0 : -9223372036854775808 ≤ at_) (h1 : at_ ≤ 9223372036854775807) :
    Calls Try.prog 54 #[.slice A n c, .int .i64 at_, .int .i64 x] w fun e w' => e = .returned (.tuple #[.int .i64 (getN bs at_ x), .bool (getK bs at_ x)]) ∧ w = w' := by
  obtain ⟨rfl, hn, hr⟩ := hs
  exact ref1_get A bs c at_ x h0 h1 _ w hr (by omega)
theorem rsum_s {A : Option Addr} {n c : Nat} {bs : List UInt8} {w : World} (hs : Sl w A n bs) :
    Calls Try.prog 40 #[.slice A n c] w fun e w' => ∃ q : Nat, e = .returned (.int .i64 (q : Int)) ∧ Hid (q = crcN bs) ∧ q < 4294967296 ∧ w = w' := by
  obtain ⟨hn, hl, hr⟩ := hs
  refine (ref2_sum A bs n c hn.symm _ w hr (by omega)).mono ?_
  rintro e w' ⟨rfl, rfl⟩
  exact ⟨_, rfl, Lib.hid rfl, crcN_lt bs, rfl⟩
theorem same_s {A A' : Option Addr} {n n' c c' : Nat} {xs ys : List UInt8} {w : World} (hx : Sl w A n xs) (hy : Sl w A' n' ys) :
    Calls Try.prog 12 #[.slice A n c, .slice A' n' c'] w fun e w' => ∃ s, e = .returned (.bool s) ∧ Hid (s = decide (xs = ys)) ∧ ∃ k, w' = w.drewN k := by
  obtain ⟨rfl, hn, hr⟩ := hx
  obtain ⟨rfl, hn', hr'⟩ := hy
  refine (ref1_same A A' xs ys c c' _ _ w hr hr' (by omega) (by omega)).mono ?_
  rintro e w' ⟨rfl, k, rfl⟩
  exact ⟨_, rfl, Lib.hid rfl, k, rfl⟩
/-- Two slices of the same bytes are the same. -/
theorem same_yes {A A' : Option Addr} {n n' c c' : Nat} {xs ys : List UInt8} {w : World} (hx : Sl w A n xs) (hy : Sl w A' n' ys) (he : xs = ys) :
    Calls Try.prog 12 #[.slice A n c, .slice A' n' c'] w fun e w' => e = .returned (.bool true) ∧ ∃ k, w' = w.drewN k := by
  refine (same_s hx hy).mono ?_
  rintro e w' ⟨s, rfl, hs, k, rfl⟩
  rw [hs.out, decide_eq_true he]
  exact ⟨rfl, k, rfl⟩
end Go.Proofs.Ytgjcpchlijpjmaa
