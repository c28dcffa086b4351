/- Stores into a row of bytes of the call's own. Steps over slices of bytes and rows, in words that last from call to call (the part that asks for no function of the program). A memory as it lies in the heap: two rows of cells, a set of numbers. What the verbs of a memory do, as plain words over lists. No program here; no statement of the seat is proved here. No statement of the seat is proved here. -/
import Derived.Test.YtlinlmimakealaaZ01
import Derived.Deep.Onto
import Derived.Maps.OwnSet
import Derived.Maps.Range
namespace Go.Proofs.Ytlinlmimakealaa
open Go.RowKit

theorem bvs_set (bs : List UInt8) (j : Nat) (u : UInt8) : (bvs bs).set j (bv u) = bvs (bs.set j u) := by simp [bvs, List.map_set]

theorem OB.stored {w : World} {base g c : Nat} {bs : List UInt8} {n : Nat} (hn : n = bs.length) (h : OB w base (.slice (some ⟨g, 0, none⟩) n c) bs) (j : Nat) (u : UInt8) :
    OB (w.setCell ⟨g, j, none⟩ (bv u)) base (.slice (some ⟨g, 0, none⟩) n c) (bs.set j u) ∧ w.grownBy (w.setCell ⟨g, j, none⟩ (bv u)) (some g) := by
  subst hn
  have := World.ownsRow.stored h j (bv u)
  rw [bvs_set] at this
  refine ⟨?_, this.2⟩
  unfold OB
  rw [List.length_set]
  exact this.1
theorem OB.cellAt {w : World} {base g c : Nat} {bs : List UInt8} {n : Nat} (hn : n = bs.length) (h : OB w base (.slice (some ⟨g, 0, none⟩) n c) bs) (j : Nat) (hj : j < bs.length) : w.cell? ⟨g, j, none⟩ = some (.int .u8 (bs[j].toNat : Int)) := by
  subst hn
  rw [World.ownsRow.cellAt h j (by omega), bvs_get bs j hj]
  rfl
theorem OB.frozenAt {w : World} {base g c : Nat} {bs : List UInt8} {n : Nat} (hn : n = bs.length) (h : OB w base (.slice (some ⟨g, 0, none⟩) n c) bs) (j : Nat) : w.frozen? ⟨g, j, none⟩ = false := by
  subst hn
  exact World.ownsRow.frozenAt h j

theorem OB.rd {w : World} {base c : Nat} {A : Option Addr} {bs : List UInt8} {n : Nat} (hn : n = bs.length) (h : OB w base (.slice A n c) bs) : RB w w.heap.size A bs := by
  subst hn
  exact Rd.of_own h

end Go.Proofs.Ytlinlmimakealaa

namespace Go.Proofs.Ytlinlmimakealaa
open Go.RowKit

theorem RB.lit' (w : World) (t : TypeId) (cs : Array Value) (fz : Nat × Nat) (bs : List UInt8) (h : cs = (bvs bs).toArray) : RB (w.alloc (.cells cs t fz)) (w.alloc (.cells cs t fz)).heap.size (some ⟨w.heap.size, 0, none⟩) bs := by
  subst h
  refine ⟨by simp [bvs], fun _ => ⟨_, _, rfl, by simp, fun j u hu => ?_⟩⟩
  rw [cell_of_row _ _ (0 + j) (bvs bs).toArray t fz (heap_alloc_new w _)]
  simpa using hu

/-- What was there is as it was. -/
def Grow (w w' : World) : Prop := Below w.heap.size w w'
section
variable {a b c w w' : World} {A : Option Addr} {n : Nat} {bs : List UInt8}
theorem Grow.refl (w : World) : Grow w w := Below.refl _ _
theorem Grow.size (h : Grow a b) : a.heap.size ≤ b.heap.size := Below.size h
theorem Grow.trans (h : Grow a b) (g : Grow b c) : Grow a c := Below.trans h (Below.mono g (Below.size h))
theorem Grow.low (h : Grow a b) (g : Below a.heap.size b c) : Grow a c := Below.trans h g
theorem Grow.alloc (h : Grow a b) (o : Obj) : Grow a (b.alloc o) := Below.alloc h (Below.size h) o
theorem Grow.drew (h : Grow a b) : Grow a b.drew := Below.drew h
theorem Grow.drewN (h : Grow a b) (k : Nat) : Grow a (b.drewN k) := below_drewN h k
theorem Grow.setCell (h : Grow a b) {p : Addr} (hp : a.heap.size ≤ p.block) (v : Value) : Grow a (b.setCell p v) := Below.setCell h hp v
theorem Grow.ofBelow {B : Nat} (h : Below B a b) (hB : B = a.heap.size) : Grow a b := by subst hB; exact h
theorem Grow.cells (h : Grow a b) : (∀ k o, k < a.heap.size → b.cell? ⟨k, o, none⟩ = a.cell? ⟨k, o, none⟩) ∧ (∀ k o, k < a.heap.size → b.frozen? ⟨k, o, none⟩ = a.frozen? ⟨k, o, none⟩) :=
  ⟨fun k o hk => Below.cell h (p := ⟨k, o, none⟩) hk, fun k o hk => Below.frozen h (p := ⟨k, o, none⟩) hk⟩
theorem Grow.cell (h : Grow a b) {p : Addr} {v : Value} (hc : a.cell? p = some v) : b.cell? p = some v := by
  obtain ⟨k, o, s⟩ := p
  have hs := World.cell?_spot hc
  simp at hs
  subst hs
  have := World.block_lt_of_cell? a _ hc
  exact (Below.cell h (p := ⟨k, o, none⟩) this).trans hc

theorem setCell_again (w : World) (b o : Nat) (v v' : Value) : (w.setCell ⟨b, o, none⟩ v).setCell ⟨b, o, none⟩ v' = w.setCell ⟨b, o, none⟩ v' := by
  unfold World.setCell
  congr 1
  apply Array.ext
  · simp
  · intro i h1 h2
    simp only [Array.getElem_modify]
    split
    · cases w.heap[i]'(by simpa using h2) <;> simp
    · rfl

theorem cell_set_eq {w : World} {p : Addr} {u v : Value} (h : w.cell? p = some u) : (w.setCell p v).cell? p = some v := World.cell?_setCell_same _ _ _ h
theorem cell_set_ne {w : World} {p q : Addr} {u v : Value} (h : w.cell? q = some v) (hn : p.block ≠ q.block) : (w.setCell p u).cell? q = some v := (World.cell?_setCell_other _ _ _ _ fun e => hn (by rw [e])).trans h
theorem cell_alloc {w : World} {o : Obj} {p : Addr} {v : Value} (h : w.cell? p = some v) : (w.alloc o).cell? p = some v := ((Grow.refl w).alloc o).cell h

/-- A slice of n bytes that is read in this world. -/
def Sl (w : World) (A : Option Addr) (n : Nat) (bs : List UInt8) : Prop := bs.length = n ∧ n ≤ 1073741000 ∧ RB w w.heap.size A bs
theorem Sl.keep (h : Sl w A n bs) (g : Grow w w') : Sl w' A n bs := ⟨h.1, h.2.1, (h.2.2.below g).more (Below.size g)⟩
theorem Sl.alloc (h : Sl w A n bs) (o : Obj) : Sl (w.alloc o) A n bs := h.keep ((Grow.refl w).alloc o)
theorem Sl.drewN (h : Sl w A n bs) (k : Nat) : Sl (w.drewN k) A n bs := h.keep ((Grow.refl w).drewN k)
theorem Sl.drew (h : Sl w A n bs) : Sl w.drew A n bs := h.keep ((Grow.refl w).drew)
theorem Sl.nil : Sl w A 0 [] := ⟨rfl, by omega, RB.nil_⟩
theorem Sl.len (h : Sl w A n bs) : bs.length = n := h.1
theorem Sl.take (h : Sl w A n bs) {k : Nat} (hk : k ≤ n) : Sl w A k (bs.take k) := ⟨by have := h.1; simp; omega, by have := h.2.1; omega, h.2.2.take (by have := h.1; omega)⟩
theorem Sl.ofRB (h : RB w w.heap.size A bs) (hn : bs.length = n) (hl : n ≤ 1073741000) : Sl w A n bs := ⟨hn, hl, h⟩
theorem Sl.ofTake (h : RB w w.heap.size A bs) (hn : n ≤ bs.length) (hl : n ≤ 1073741000) : Sl w A n (bs.take n) := ⟨by simp; omega, hl, h.take hn⟩
theorem Sl.drop (h : Sl w A n bs) {k c : Nat} (hk : k ≤ n) (hc : n ≤ c) : Sl w (if c = k then A else A.map (·.add k)) (n - k) (bs.drop k) :=
  ⟨by have := h.1; simp; omega, by have := h.2.1; omega, h.2.2.drop (by have := h.1; omega) (by have := h.1; omega)⟩
theorem Sl.cell (h : Sl w A n bs) {k : Nat} (hk : k < n) : ∃ b o, A = some ⟨b, o, none⟩ ∧ b < w.heap.size ∧ w.cell? ⟨b, o + k, none⟩ = some (.int .u8 ((bs[k]'(by have := h.1; omega)).toNat : Int)) := h.2.2.at_ (by have := h.1; omega)
theorem Sl.all (h : Sl w A n bs) (h0 : 0 < n) : ∃ b o, A = some ⟨b, o, none⟩ ∧ b < w.heap.size ∧ ∀ k (hk : k < n), w.cell? ⟨b, o + k, none⟩ = some (.int .u8 ((bs[k]'(by have := h.1; omega)).toNat : Int)) := by
  obtain ⟨b, o, e, hb, hc⟩ := h.2.2.all (by have := h.1; omega)
  exact ⟨b, o, e, hb, fun k hk => hc k (by have := h.1; omega)⟩
theorem Sl.lit (w : World) (t : TypeId) (cs : Array Value) (bs : List UInt8) (n : Nat) (hn : bs.length = n) (h : cs = (bvs bs).toArray) (hl : n ≤ 1073741000) : Sl (w.alloc (.cells cs t)) (some ⟨w.heap.size, 0, none⟩) n bs :=
  ⟨hn, hl, by have := RB.lit w t cs bs h; simpa using this⟩

theorem Sl.litf (w : World) (t : TypeId) (cs : Array Value) (fz : Nat × Nat) (bs : List UInt8) (n : Nat) (hn : bs.length = n) (h : cs = (bvs bs).toArray) (hl : n ≤ 1073741000) : Sl (w.alloc (.cells cs t fz)) (some ⟨w.heap.size, 0, none⟩) n bs :=
  ⟨hn, hl, RB.lit' w t cs fz bs h⟩

/-- A slice of n bytes of the call's own: what lies below 'base' is none of it. -/
def Own (w : World) (base : Nat) (A : Option Addr) (n c : Nat) (bs : List UInt8) : Prop := bs.length = n ∧ n ≤ 1073741000 ∧ OB w base (.slice A n c) bs
theorem Own.sl {base c' : Nat} (h : Own w base A n c' bs) : Sl w A n bs := by
  obtain ⟨h1, h2, h3⟩ := h
  obtain ⟨A', c2, e, -, -, hr, -⟩ := h3.form
  injection e with e1 e2 e3
  subst e1
  exact ⟨h1, h2, hr⟩
theorem Own.low {base B : Nat} {c' : Nat} (h : Own w base A n c' bs) (hB : B ≤ base) : Own w B A n c' bs := ⟨h.1, h.2.1, World.ownsRow.mono h.2.2 hB⟩
theorem Own.cap {base : Nat} {c' : Nat} (h : Own w base A n c' bs) : n ≤ c' := by
  obtain ⟨A', c2, e, h1, -, -, -⟩ := h.2.2.form
  injection e with e1 e2 e3
  omega
theorem Own.row {base c' : Nat} (h : Own w base A n c' bs) (h0 : 0 < n) : ∃ g, A = some ⟨g, 0, none⟩ ∧ base ≤ g ∧ g < w.heap.size := by
  obtain ⟨h1, h2, h3⟩ := h
  obtain ⟨A', c2, e, -, -, hr, hb⟩ := h3.form
  injection e with e1 e2 e3
  subst e1
  obtain ⟨b, o, e, -⟩ := hr.2 (by omega)
  obtain ⟨q1, q2, q3⟩ := hb _ e
  injection q3 with q4 q5
  refine ⟨b, ?_, q1, q2⟩
  rw [e, q5]
theorem Own.alloc {base : Nat} {c' : Nat} (h : Own w base A n c' bs) (o : Obj) : Own (w.alloc o) base A n c' bs := ⟨h.1, h.2.1, h.2.2.alloc o⟩
theorem Own.ofOB {base : Nat} {v : Value} (h : OB w base v bs) (m : Nat) (hm : bs.length = m) (hl : m ≤ 1073741000) : ∃ A c, v = .slice A m c ∧ Own w base A m c bs := by
  obtain ⟨A, c, rfl, -, -, -, -⟩ := h.form
  exact ⟨A, c, by rw [hm], hm, hl, by rw [← hm]; exact h⟩
theorem Own.nil (w : World) (base : Nat) : Own w base none 0 0 [] := ⟨rfl, by omega, OB.nil w base⟩
end

/-- The cells of block g, from the first on. -/
def Blk (w : World) (g : Nat) (vs : List Value) : Prop := g < w.heap.size ∧ ∀ j v, vs[j]? = some v → w.cell? ⟨g, j, none⟩ = some v
theorem Blk.keep {w w' : World} {g : Nat} {vs : List Value} (h : Blk w g vs) (k : Grow w w') : Blk w' g vs := ⟨Nat.lt_of_lt_of_le h.1 k.size, fun j v hv => k.cell (h.2 j v hv)⟩
theorem Blk.below {w w' : World} {g B : Nat} {vs : List Value} (h : Blk w g vs) (k : Below B w w') (hg : g < B) : Blk w' g vs := ⟨Nat.lt_of_lt_of_le h.1 k.size, fun j v hv => (k.cell (p := ⟨g, j, none⟩) hg).trans (h.2 j v hv)⟩
theorem Blk.new (w : World) (t : TypeId) (vs : List Value) (cs : Array Value) (fz : Nat × Nat) (h : cs = vs.toArray) : Blk (w.alloc (.cells cs t fz)) w.heap.size vs := by
  subst h
  refine ⟨by simp, fun j v hv => ?_⟩
  rw [cell_of_row _ _ j vs.toArray t fz (heap_alloc_new w _)]
  simpa using hv
section
variable {w : World} {g : Nat} {a b c d e f : Value}
theorem Blk.c1 (h : Blk w g [a]) : w.cell? ⟨g, 0, none⟩ = some a := h.2 0 _ rfl
theorem Blk.c2 (h : Blk w g [a, b]) : w.cell? ⟨g, 0, none⟩ = some a ∧ w.cell? ⟨g, 1, none⟩ = some b := ⟨h.2 0 _ rfl, h.2 1 _ rfl⟩
theorem Blk.c3 (h : Blk w g [a, b, c]) : w.cell? ⟨g, 0, none⟩ = some a ∧ w.cell? ⟨g, 1, none⟩ = some b ∧ w.cell? ⟨g, 2, none⟩ = some c := ⟨h.2 0 _ rfl, h.2 1 _ rfl, h.2 2 _ rfl⟩
theorem Blk.c4 (h : Blk w g [a, b, c, d]) : w.cell? ⟨g, 0, none⟩ = some a ∧ w.cell? ⟨g, 1, none⟩ = some b ∧ w.cell? ⟨g, 2, none⟩ = some c ∧ w.cell? ⟨g, 3, none⟩ = some d := ⟨h.2 0 _ rfl, h.2 1 _ rfl, h.2 2 _ rfl, h.2 3 _ rfl⟩
theorem Blk.c5 (h : Blk w g [a, b, c, d, e]) : w.cell? ⟨g, 0, none⟩ = some a ∧ w.cell? ⟨g, 1, none⟩ = some b ∧ w.cell? ⟨g, 2, none⟩ = some c ∧ w.cell? ⟨g, 3, none⟩ = some d ∧ w.cell? ⟨g, 4, none⟩ = some e := ⟨h.2 0 _ rfl, h.2 1 _ rfl, h.2 2 _ rfl, h.2 3 _ rfl, h.2 4 _ rfl⟩
theorem Blk.c6 (h : Blk w g [a, b, c, d, e, f]) : w.cell? ⟨g, 0, none⟩ = some a ∧ w.cell? ⟨g, 1, none⟩ = some b ∧ w.cell? ⟨g, 2, none⟩ = some c ∧ w.cell? ⟨g, 3, none⟩ = some d ∧ w.cell? ⟨g, 4, none⟩ = some e ∧ w.cell? ⟨g, 5, none⟩ = some f := ⟨h.2 0 _ rfl, h.2 1 _ rfl, h.2 2 _ rfl, h.2 3 _ rfl, h.2 4 _ rfl, h.2 5 _ rfl⟩
end

theorem Blk.set_ne {w : World} {g : Nat} {vs : List Value} {p : Addr} {v : Value} (h : Blk w g vs) (hn : p.block ≠ g) : Blk (w.setCell p v) g vs := ⟨by simpa using h.1, fun j u hu => cell_set_ne (h.2 j u hu) hn⟩
theorem Blk.set {w : World} {g : Nat} {vs : List Value} {v : Value} (h : Blk w g vs) {j : Nat} (hj : j < vs.length) : Blk (w.setCell ⟨g, j, none⟩ v) g (vs.set j v) := by
  refine ⟨by simpa using h.1, fun i u hu => ?_⟩
  by_cases e : j = i
  · subst e
    obtain rfl : v = u := by simpa [List.getElem?_set, hj] using hu
    exact cell_set_eq (h.2 j _ (List.getElem?_eq_getElem hj))
  · rw [List.getElem?_set_ne e] at hu
    exact (World.cell?_setCell_other _ _ _ _ (fun e2 => e (by injection e2))).trans (h.2 i u hu)
/-- The cells of block g, none of them frozen. -/
def Row (w : World) (g : Nat) (vs : List Value) : Prop := Blk w g vs ∧ ∀ j, j < vs.length → w.frozen? ⟨g, j, none⟩ = false
theorem Row.keep {w w' : World} {g : Nat} {vs : List Value} (h : Row w g vs) (k : Grow w w') : Row w' g vs := ⟨h.1.keep k, fun j hj => (k.cells.2 g j h.1.1).trans (h.2 j hj)⟩
theorem Row.new (w : World) (t : TypeId) (vs : List Value) (cs : Array Value) (h : cs = vs.toArray) : Row (w.alloc (.cells cs t)) w.heap.size vs := by
  refine ⟨Blk.new w t vs cs (0, 0) h, fun j _ => ?_⟩
  exact frozen_of_row _ _ j _ t (heap_alloc_new w _)
theorem Row.set_ne {w : World} {g : Nat} {vs : List Value} {p : Addr} {v : Value} (h : Row w g vs) (hn : p.block ≠ g) : Row (w.setCell p v) g vs := ⟨h.1.set_ne hn, fun j hj => by simpa using h.2 j hj⟩
theorem Row.set {w : World} {g : Nat} {vs : List Value} {v : Value} (h : Row w g vs) {j : Nat} (hj : j < vs.length) : Row (w.setCell ⟨g, j, none⟩ v) g (vs.set j v) := ⟨h.1.set hj, fun i hi => by rw [List.length_set] at hi; simpa using h.2 i hi⟩

theorem ints_new (w : World) (t : TypeId) (ns : List Int) (cs : Array Value) (h : cs = (ns.map (Value.int .i64)).toArray) : ∀ j (_ : j < ns.length), (w.alloc (.cells cs t)).cell? ⟨w.heap.size, 0 + j, none⟩ = some (.int .i64 ns[j]) := by
  subst h
  intro j hj
  rw [cell_of_row _ _ (0 + j) (ns.map (Value.int .i64)).toArray t (0, 0) (heap_alloc_new w _)]
  simp [hj]

theorem ints_at (w : World) (t : TypeId) (b : Nat) (ns : List Int) (cs : Array Value) (hb : b = w.heap.size) (h : cs = (ns.map (Value.int .i64)).toArray) : ∀ j (_ : j < ns.length), (w.alloc (.cells cs t)).cell? ⟨b, 0 + j, none⟩ = some (.int .i64 ns[j]) := by
  subst hb
  exact ints_new w t ns cs h

theorem Own.lit (w : World) (cs : Array Value) (bs : List UInt8) (n base : Nat) (hn : bs.length = n) (h : cs = (bvs bs).toArray) (hl : n ≤ 1073741000) (hB : base ≤ w.heap.size) : Own (w.alloc (.cells cs 5)) base (some ⟨w.heap.size, 0, none⟩) n n bs := by
  subst hn h
  refine ⟨rfl, hl, ?_⟩
  unfold OB World.ownsRow
  refine ⟨by simp [bvs], .inr ⟨w.heap.size, bs.length, (bvs bs).toArray, rfl, hB, heap_alloc_new w _, Nat.le_refl _, by unfold maxLen; omega, by simp [bvs], ?_⟩⟩
  rw [List.take_of_length_le (by simp [bvs])]
theorem byte_int (n : Int) (h0 : 0 ≤ n) (h : n < 256) : ((UInt8.ofNat (n.toNat % 256)).toNat : Int) = n := by simp; omega
theorem pad_next (bs : List UInt8) (j : Nat) : bs ++ List.replicate j 0 ++ [0] = bs ++ List.replicate (j + 1) 0 := by
  rw [List.append_assoc, List.replicate_succ']
def lenV : Value → Nat
  | .slice _ n _ => n
  | _ => 0

end Go.Proofs.Ytlinlmimakealaa

namespace Go.Proofs.Ytlinlmimakealaa
open Go.RowKit Go.Maps

/-- Of what was there only blocks of F have turned. -/
structure Turn (F : Nat → Prop) (w w' : World) : Prop where
  os : w'.os = w.os
  tape : w'.tape = w.tape
  output : w'.output = w.output
  size : w.heap.size ≤ w'.heap.size
  block : ∀ k, k < w.heap.size → ¬ F k → w'.heap[k]? = w.heap[k]?
section
variable {F G : Nat → Prop} {a b c : World}
theorem Turn.refl (F : Nat → Prop) (w : World) : Turn F w w := ⟨rfl, rfl, rfl, Nat.le_refl _, fun _ _ _ => rfl⟩
theorem Turn.trans (h : Turn F a b) (k : Turn G b c) (hg : ∀ i, G i → F i ∨ a.heap.size ≤ i) : Turn F a c :=
  ⟨k.os.trans h.os, k.tape.trans h.tape, k.output.trans h.output, Nat.le_trans h.size k.size, fun i hi hn =>
    (k.block i (Nat.lt_of_lt_of_le hi h.size) (fun q => (hg i q).elim hn (fun q => by omega))).trans (h.block i hi hn)⟩
theorem Turn.and (h : Turn F a b) (k : Turn F b c) : Turn F a c := h.trans k fun _ q => .inl q
theorem Turn.mono (h : Turn F a b) (hg : ∀ i, F i → G i) : Turn G a b := ⟨h.os, h.tape, h.output, h.size, fun i hi hn => h.block i hi fun q => hn (hg i q)⟩
theorem Turn.grow (h : Grow a b) (F : Nat → Prop) : Turn F a b := ⟨h.os, h.tape, h.output, h.size, fun i hi _ => h.block i hi⟩
theorem Turn.andGrow (h : Turn F a b) (k : Grow b c) : Turn F a c := h.and (Turn.grow k F)
theorem Turn.grown {row : Option Nat} (h : a.grownBy b row) (hr : ∀ j, row = some j → F j) : Turn F a b := ⟨h.os, h.tape, h.output, h.size, fun i hi hn => h.block i hi fun q => hn (hr i q.symm)⟩
theorem Turn.low {B : Nat} (h : Turn F a b) (hF : ∀ i, F i → B ≤ i) (hB : B ≤ a.heap.size) : Below B a b := ⟨h.os, h.tape, h.output, h.size, fun i hi => h.block i (by omega) fun q => by have := hF i q; omega⟩
theorem Turn.setCell (w : World) {p : Addr} (hp : F p.block) (v : Value) : Turn F w (w.setCell p v) := ⟨rfl, rfl, rfl, by simp, fun i _ hn => Below.heap_setCell _ _ _ _ fun e => hn (e ▸ hp)⟩
theorem Turn.cell (h : Turn F a b) {p : Addr} (hp : p.block < a.heap.size) (hn : ¬ F p.block) : b.cell? p = a.cell? p := World.cell?_of_block (h.block _ hp hn)
theorem Turn.frozen (h : Turn F a b) {p : Addr} (hp : p.block < a.heap.size) (hn : ¬ F p.block) : b.frozen? p = a.frozen? p := World.frozen?_of_block (h.block _ hp hn)
end

/-- Block g is a row of n elements of 'size' cells, room for c: the cells xs. -/
def CR (w : World) (g : Nat) (e : TypeId) (size n c : Nat) (xs : List Value) : Prop := xs.length = n * size ∧ n ≤ c ∧ c ≤ maxLen ∧ ∃ cur, w.heap[g]? = some (.cells cur e) ∧ cur.size = c * size ∧ cur.toList.take (n * size) = xs
section
variable {w w' : World} {g size n c base : Nat} {e : TypeId} {xs : List Value} {F : Nat → Prop}
theorem CR.row (h : CR w g e size n c xs) (hb : base ≤ g) : w.ownsRow base e size (.slice (some ⟨g, 0, none⟩) n c) n xs := by
  obtain ⟨h1, h2, h3, cur, h4, h5, h6⟩ := h
  exact ⟨h1, .inr ⟨g, c, cur, rfl, hb, h4, h2, h3, h5, h6⟩⟩
theorem CR.of_row (h : w.ownsRow base e size (.slice (some ⟨g, 0, none⟩) n c) n xs) : CR w g e size n c xs := by
  rcases h.2 with ⟨h0, _⟩ | ⟨g', c', cur, hv, _, h4, h2, h3, h5, h6⟩
  · cases h0
  · injection hv with e1 e2 e3
    injection e1 with e1
    injection e1 with e1
    subst e1 e3
    exact ⟨h.1, h2, h3, cur, h4, h5, h6⟩
theorem CR.lt (h : CR w g e size n c xs) : g < w.heap.size := by
  obtain ⟨_, _, _, cur, h4, _⟩ := h
  exact (Array.getElem?_eq_some_iff.1 h4).1
theorem CR.same (h : CR w g e size n c xs) (hk : w'.heap[g]? = w.heap[g]?) : CR w' g e size n c xs := by
  obtain ⟨h1, h2, h3, cur, h4, h5⟩ := h
  exact ⟨h1, h2, h3, cur, hk.trans h4, h5⟩
theorem CR.turn (h : CR w g e size n c xs) (t : Turn F w w') (hg : ¬ F g) : CR w' g e size n c xs := h.same (t.block g h.lt hg)
theorem CR.cell (h : CR w g e size n c xs) {j : Nat} {u : Value} (hj : xs[j]? = some u) : w.cell? ⟨g, j, none⟩ = some u := by
  have := World.ownsRow.cells (h.row (Nat.zero_le _)) (g := g) rfl j u hj
  simpa [Addr.add_lit] using this
theorem CR.frozen (h : CR w g e size n c xs) (j : Nat) : w.frozen? ⟨g, j, none⟩ = false := World.ownsRow.frozenAt (h.row (Nat.zero_le _)) j
theorem CR.set (h : CR w g e size n c xs) (j : Nat) (v : Value) : CR (w.setCell ⟨g, j, none⟩ v) g e size n c (xs.set j v) := CR.of_row (World.ownsRow.stored (h.row (Nat.zero_le _)) j v).1
theorem CR.set_ne (h : CR w g e size n c xs) {p : Addr} (hp : p.block ≠ g) (v : Value) : CR (w.setCell p v) g e size n c xs := h.same (Below.heap_setCell _ _ _ _ (Ne.symm hp))
theorem CR.alloc (h : CR w g e size n c xs) (o : Obj) : CR (w.alloc o) g e size n c xs := h.turn (Turn.grow ((Grow.refl w).alloc o) fun _ => False) (fun q => q)
end

/-! ### the set -/
theorem pigeon : ∀ (N : Nat) (l : List Nat), l.Nodup → (∀ x ∈ l, x < N) → l.length ≤ N := by
  intro N
  induction N with
  | zero => intro l _ h; cases l with | nil => simp | cons x l => exact absurd (h x (by simp)) (by omega)
  | succ N ih =>
    intro l hn h
    by_cases hm : N ∈ l
    · have h1 := ih (l.erase N) (hn.erase N) (fun x hx => by
        have h2 := hn.mem_erase_iff.1 hx
        have := h x h2.2
        omega)
      rw [List.length_erase_of_mem hm] at h1
      omega
    · have := ih l hn (fun x hx => by
        have h1 := h x hx
        have h2 : x ≠ N := fun e => hm (e ▸ hx)
        omega)
      omega

def keyL (k : Nat) : Lit := .int .i64 (k : Int)
theorem int_keyed' : Keyed Try.prog 3 := int_keyed Try.underlying3
/-- Block b is a map that has just the numbers at which A is true, each below A's length. -/
def SetIs (w : World) (b : Nat) (A : List Bool) : Prop := ∃ D : DataW Unit, w.ownsMap Try.prog 3 (plainElem Try.prog 4) b A.length D ∧ ∀ kl, Maps.has D kl = true ↔ ∃ k, kl = keyL k ∧ A[k]? = some true

theorem owns_shrink {w : World} {b n N : Nat} {D : DataW Unit} (h : w.ownsMap Try.prog 3 (plainElem Try.prog 4) b n D) (hk : ∀ kl, Maps.has D kl = true → ∃ k, kl = keyL k ∧ k < N) : w.ownsMap Try.prog 3 (plainElem Try.prog 4) b N D := by
  obtain ⟨es, hD, hp, hl⟩ := h.entries int_keyed'
  have hsz : es.length ≤ N := by
    have hnat : ∀ p ∈ es, ∃ k : Nat, p.1 = keyL k ∧ k < N := fun p hm => hk p.1 (by rw [hD]; exact List.any_eq_true.2 ⟨p, hm, WideAt.sameKey_self (hl p hm)⟩)
    let f : Lit × DataW Unit → Nat := fun p => match p.1 with | .int _ z => z.toNat | _ => 0
    have hf : ∀ p ∈ es, p.1 = keyL (f p) ∧ f p < N := by
      intro p hm
      obtain ⟨k, h1, h2⟩ := hnat p hm
      have : f p = k := by simp [f, h1, keyL]
      rw [this]; exact ⟨h1, h2⟩
    have := pigeon N (es.map f) (by
      refine List.pairwise_map.2 (List.Pairwise.imp_of_mem ?_ hp)
      intro p q hpm hqm hne he
      exact hne (by rw [(hf p hpm).1, (hf q hqm).1, he])) (fun x hx => by
      obtain ⟨p, hm, rfl⟩ := List.mem_map.1 hx
      exact (hf p hm).2)
    simpa using this
  obtain ⟨es', clock, h1, h2, h3, h4⟩ := h
  refine ⟨es', clock, h1, h2, ?_, h4⟩
  rw [h4] at hD
  injection hD with hD
  rw [← hD, length_sorted] at hsz
  simpa using hsz

theorem SetIs.made (w : World) (N : Nat) : SetIs (w.alloc (.map #[] 0)) w.heap.size (List.replicate N false) := by
  refine ⟨_, (World.ownsMap_made w _ _ _).mono (Nat.zero_le _), fun kl => ?_⟩
  simp [Maps.has, List.getElem?_replicate]
theorem SetIs.kept {w w' : World} {b : Nat} {A : List Bool} (h : SetIs w b A) (hk : w'.heap[b]? = w.heap[b]?) : SetIs w' b A := by
  obtain ⟨D, ⟨es, clock, h1, h2⟩, h3⟩ := h
  exact ⟨D, ⟨es, clock, hk.trans h1, h2⟩, h3⟩
theorem SetIs.lt {w : World} {b : Nat} {A : List Bool} (h : SetIs w b A) : b < w.heap.size := by obtain ⟨D, h, _⟩ := h; exact h.lt
theorem SetIs.turn {w w' : World} {F : Nat → Prop} {b : Nat} {A : List Bool} (h : SetIs w b A) (t : Turn F w w') (hg : ¬ F b) : SetIs w' b A := h.kept (t.block b h.lt hg)
theorem set_get (A : List Bool) (k j : Nat) (v : Bool) (hk : k < A.length) : (A.set k v)[j]? = if j = k then some v else A[j]? := by
  by_cases e : j = k
  · subst e; simp [hk]
  · rw [List.getElem?_set_ne (Ne.symm e), if_neg e]
theorem keyL_inj {a b : Nat} (h : keyL a = keyL b) : a = b := by
  unfold keyL at h
  injection h with _ h
  omega
theorem keyL_is (k : Nat) : WideAt.IsKeyLit (keyL k) := trivial

section
variable {w : World} {ops : Array Oper} {rest : List Oper} {o : Oper} {a : Act} {Q : Exit → Act → World → Prop} {b : Nat} {A : List Bool}
/-- 'm[k] = true'. -/
theorem wpList_setPut (hg : o.guard = none) (m x v : Operand) (hop : o.op = Op.mapUpdate 74 m x v) (hm : a.eval m = .map (some b)) (h : SetIs w b A) (k : Nat) (hk : k < A.length) (hA : A.length ≤ 1000000) (hx : a.eval x = .int .i64 (k : Int)) (hv : a.eval v = .bool true)
    (hK : ∀ w', SetIs w' b (A.set k true) → w.grownBy w' (some b) → wpList Try.prog ops Q rest (a.put o.dst undef) w') : wpList Try.prog ops Q (o :: rest) a w := by
  obtain ⟨D, h1, h2⟩ := h
  refine wpList_mapUpdate_in w hg m x v 74 hop 3 4 int_keyed' Try.underlying74 _ b A.length D hm h1 (by unfold maxLen; omega) _ _ (keyL k) hx hv (keyOf_int_mk Try.underlying3 (WalkArith.wf_i64 (by omega))) _ [] (plainElem_bool Try.underlying4 true) ?_
  intro w' h3 h4
  have hh : ∀ kl, Maps.has (D.put (keyL k) (.lit (.bool true))) kl = true ↔ ∃ j, kl = keyL j ∧ (A.set k true)[j]? = some true := by
    intro kl
    by_cases e : kl = keyL k
    · subst e
      rw [Maps.has_put_same h1.isMap (keyL_is k)]
      exact ⟨fun _ => ⟨k, rfl, by rw [set_get A k k true hk, if_pos rfl]⟩, fun _ => rfl⟩
    · rw [Maps.has_put_other e, h2]
      constructor
      · rintro ⟨j, rfl, hj⟩
        refine ⟨j, rfl, ?_⟩
        rw [set_get A k j true hk, if_neg (fun q => e (by rw [q]))]
        exact hj
      · rintro ⟨j, rfl, hj⟩
        refine ⟨j, rfl, ?_⟩
        rw [set_get A k j true hk, if_neg (fun q => e (by rw [q]))] at hj
        exact hj
  refine hK w' ⟨_, owns_shrink h3 (fun kl hkl => ?_), hh⟩ h4.grown
  obtain ⟨j, h5, h6⟩ := (hh kl).1 hkl
  exact ⟨j, h5, (List.getElem?_eq_some_iff.1 h6).1⟩
theorem has_del {D : DataW Unit} (h2 : ∀ kl, Maps.has D kl = true ↔ ∃ k, kl = keyL k ∧ A[k]? = some true) {k : Nat} (hk : k < A.length) : ∀ kl, Maps.has (D.del (keyL k)) kl = true ↔ ∃ j, kl = keyL j ∧ (A.set k false)[j]? = some true := by
  intro kl
  by_cases e : kl = keyL k
  · subst e
    rw [Maps.has_del_same]
    constructor
    · intro h; cases h
    · rintro ⟨j, h3, h4⟩
      have := keyL_inj h3
      subst this
      rw [set_get A k k false hk, if_pos rfl] at h4
      cases h4
  · rw [Maps.has_del_other e, h2]
    constructor
    · rintro ⟨j, rfl, hj⟩
      refine ⟨j, rfl, ?_⟩
      rw [set_get A k j false hk, if_neg (fun q => e (by rw [q]))]
      exact hj
    · rintro ⟨j, rfl, hj⟩
      refine ⟨j, rfl, ?_⟩
      rw [set_get A k j false hk, if_neg (fun q => e (by rw [q]))] at hj
      exact hj
/-- 'delete(m, k)'. -/
theorem wpList_setDel (hg : o.guard = none) (m x : Operand) (hop : o.op = Op.call { callee := Callee.builtin Builtin.delete, args := #[m, x], argTypes := #[74, 3] }) (hm : a.eval m = .map (some b)) (h : SetIs w b A) (k : Nat) (hk : k < A.length) (hk2 : k ≤ 1000000) (hx : a.eval x = .int .i64 (k : Int))
    (hK : ∀ w', SetIs w' b (A.set k false) → w.grownBy w' (some b) → w'.heap.size = w.heap.size → wpList Try.prog ops Q rest (a.put o.dst (.tuple #[])) w') : wpList Try.prog ops Q (o :: rest) a w := by
  obtain ⟨D, h1, h2⟩ := h
  refine wpList_delete_own w hg m x 74 3 hop 4 int_keyed' Try.underlying74 _ b A.length D hm h1 _ (keyL k) hx (keyOf_int_mk Try.underlying3 (WalkArith.wf_i64 (by omega))) ?_
  intro w' h3 h4
  refine hK w' ⟨_, by rw [List.length_set]; exact h3, has_del h2 hk⟩ h4.grown ?_
  obtain ⟨es, clock, es', clock', _, rfl⟩ := h4
  simp [Go.ChangeMaps.setBlock]
end
end Go.Proofs.Ytlinlmimakealaa

namespace Go.Proofs.Ytlinlmimakealaa

def inW (L : Nat) (at_ n : Int) : Bool := decide (0 ≤ at_ ∧ 0 ≤ n ∧ at_ + n ≤ (L : Int))
theorem inW_iff {L : Nat} {at_ n : Int} : inW L at_ n = true ↔ 0 ≤ at_ ∧ 0 ≤ n ∧ at_ + n ≤ (L : Int) := by simp [inW]

/-- Bytes put one by one. -/
def putL (S : List UInt8) (i : Nat) : List UInt8 → List UInt8
  | [] => S
  | u :: bs => putL (S.set i u) (i + 1) bs
theorem putL_snoc (bs : List UInt8) (u : UInt8) : ∀ (S : List UInt8) (i : Nat), putL S i (bs ++ [u]) = (putL S i bs).set (i + bs.length) u := by
  induction bs with
  | nil => intro S i; rfl
  | cons v bs ih =>
    intro S i
    simp only [List.cons_append, putL, ih, List.length_cons]
    rw [show i + 1 + bs.length = i + (bs.length + 1) by omega]
theorem putL_length (bs : List UInt8) : ∀ (S : List UInt8) (i : Nat), (putL S i bs).length = S.length := by
  induction bs with
  | nil => intro S i; rfl
  | cons v bs ih => intro S i; simp [putL, ih]
theorem putL_take {S bs : List UInt8} {i k : Nat} (hk : k < bs.length) : putL S i (bs.take (k + 1)) = (putL S i (bs.take k)).set (i + k) bs[k] := by
  rw [List.take_succ_eq_append_getElem hk, putL_snoc, List.length_take, Nat.min_eq_left (by omega)]
/-- The cells of bytes that were put are no longer on their way. -/
def clrL (A : List Bool) (i : Nat) : Nat → List Bool
  | 0 => A
  | n + 1 => (clrL A i n).set ((i + n) / 8) false
theorem clrL_length (A : List Bool) (i n : Nat) : (clrL A i n).length = A.length := by
  induction n with
  | zero => rfl
  | succ n ih => simp [clrL, ih]

/-- Bytes as they are seen go where they last. -/
def keepN (S T : List UInt8) (i : Nat) : Nat → List UInt8
  | 0 => T
  | n + 1 => (keepN S T i n).set (i + n) (S.getD (i + n) 0)
theorem keepN_length (S T : List UInt8) (i n : Nat) : (keepN S T i n).length = T.length := by
  induction n with
  | zero => rfl
  | succ n ih => simp [keepN, ih]
theorem keepN_get (S T : List UInt8) (i n j : Nat) (hj : j < T.length) : (keepN S T i n).getD j 0 = if i ≤ j ∧ j < i + n then S.getD j 0 else T.getD j 0 := by
  induction n with
  | zero => rw [keepN, if_neg (by omega)]
  | succ n ih =>
    have hl := keepN_length S T i n
    rw [keepN, List.getD_eq_getElem?_getD]
    by_cases e : i + n = j
    · subst e
      rw [List.getElem?_set_self (by omega), if_pos (by omega)]
      rfl
    · rw [List.getElem?_set_ne e, ← List.getD_eq_getElem?_getD, ih]
      by_cases h : i ≤ j ∧ j < i + n
      · rw [if_pos h, if_pos (by omega)]
      · rw [if_neg h, if_neg (by omega)]
theorem ext_getD {A B : List UInt8} (hl : A.length = B.length) (h : ∀ j, j < A.length → A.getD j 0 = B.getD j 0) : A = B := by
  apply List.ext_getElem hl
  intro j h1 h2
  have := h j h1
  simpa [List.getD_eq_getElem?_getD, h1, h2] using this

/-- Of those cells the bytes as they are seen, of the others as they last. -/
def mixL (S T : List UInt8) (B : Nat → Bool) : List UInt8 := (List.range T.length).map fun j => if B (j / 8) then S.getD j 0 else T.getD j 0
theorem mixL_length (S T : List UInt8) (B : Nat → Bool) : (mixL S T B).length = T.length := by simp [mixL]
theorem mixL_get (S T : List UInt8) (B : Nat → Bool) (j : Nat) (hj : j < T.length) : (mixL S T B).getD j 0 = if B (j / 8) then S.getD j 0 else T.getD j 0 := by
  simp [mixL, List.getD_eq_getElem?_getD, hj]
theorem mixL_none (S T : List UInt8) {B : Nat → Bool} (h : ∀ k, B k = false) : mixL S T B = T := by
  refine ext_getD (mixL_length ..) fun j hj => ?_
  rw [mixL_length] at hj
  rw [mixL_get S T B j hj, if_neg (by rw [h]; decide)]
theorem mixL_keep (S T : List UInt8) (B : Nat → Bool) (k : Nat) : keepN S (mixL S T B) (8 * k) 8 = mixL S T fun j => B j || j == k := by
  refine ext_getD (by rw [keepN_length, mixL_length, mixL_length]) fun j hj => ?_
  rw [keepN_length, mixL_length] at hj
  rw [keepN_get _ _ _ _ _ (by rw [mixL_length]; exact hj), mixL_get _ _ _ _ hj, mixL_get _ _ _ _ hj]
  by_cases h : 8 * k ≤ j ∧ j < 8 * k + 8
  · have : j / 8 = k := by omega
    rw [if_pos h, if_pos (by simp [this])]
  · have : ¬ j / 8 = k := by omega
    rw [if_neg h]
    simp [this]
theorem mixL_congr (S T : List UInt8) {B C : Nat → Bool} (h : ∀ k, 8 * k < T.length → B k = C k) : mixL S T B = mixL S T C := by
  refine ext_getD (by rw [mixL_length, mixL_length]) fun j hj => ?_
  rw [mixL_length] at hj
  rw [mixL_get _ _ _ _ hj, mixL_get _ _ _ _ hj, h (j / 8) (by omega)]

/-- Does a cell not last as it is seen? -/
def dirtyB (S T : List UInt8) (k : Nat) : Bool := (List.range 8).any fun j => S.getD (8 * k + j) 0 != T.getD (8 * k + j) 0
def dirtyL (S T : List UInt8) (N : Nat) : List Int := ((List.range N).filter (dirtyB S T)).map Int.ofNat
def clrAll (A : List Bool) : List Bool := List.replicate A.length false
/-- Is a cell in a line that bytes touch? -/
def lineB (at_ n : Nat) (k : Nat) : Bool := decide (0 < n ∧ at_ / 64 ≤ k / 8 ∧ k / 8 ≤ (at_ + n - 1) / 64)
def flushA (S T : List UInt8) (A : List Bool) (B : Nat → Bool) : List Bool := (List.range A.length).map fun k => A.getD k false || (B k && dirtyB S T k)
theorem flushA_length (S T : List UInt8) (A : List Bool) (B : Nat → Bool) : (flushA S T A B).length = A.length := by simp [flushA]
theorem getD_ext {A B : List Bool} (hl : A.length = B.length) (h : ∀ j, j < A.length → A.getD j false = B.getD j false) : A = B := by
  apply List.ext_getElem hl
  intro j h1 h2
  have := h j h1
  simpa [List.getD_eq_getElem?_getD, h1, h2] using this
theorem getD_set (A : List Bool) (k j : Nat) (v : Bool) (hk : k < A.length) : (A.set k v).getD j false = if j = k then v else A.getD j false := by
  rw [List.getD_eq_getElem?_getD]
  by_cases e : j = k
  · subst e; rw [List.getElem?_set_self hk, if_pos rfl]; rfl
  · rw [List.getElem?_set_ne (Ne.symm e), if_neg e, ← List.getD_eq_getElem?_getD]
theorem flushA_get (S T : List UInt8) (A : List Bool) (B : Nat → Bool) (k : Nat) (hk : k < A.length) : (flushA S T A B).getD k false = (A.getD k false || (B k && dirtyB S T k)) := by
  simp [flushA, List.getD_eq_getElem?_getD, hk]
theorem flushA_none (S T : List UInt8) (A : List Bool) {B : Nat → Bool} (h : ∀ k, B k = false) : flushA S T A B = A := by
  refine getD_ext (flushA_length ..) fun j hj => ?_
  rw [flushA_length] at hj
  rw [flushA_get _ _ _ _ _ hj, h]
  simp
theorem flushA_congr (S T : List UInt8) (A : List Bool) {B C : Nat → Bool} (h : ∀ k, k < A.length → dirtyB S T k = true → B k = C k) : flushA S T A B = flushA S T A C := by
  refine getD_ext (by rw [flushA_length, flushA_length]) fun j hj => ?_
  rw [flushA_length] at hj
  rw [flushA_get _ _ _ _ _ hj, flushA_get _ _ _ _ _ hj]
  cases hd : dirtyB S T j with
  | false => simp
  | true => rw [h j hj hd]
theorem flushA_set (S T : List UInt8) (A : List Bool) (B : Nat → Bool) (k : Nat) (hk : k < A.length) (hd : dirtyB S T k = true) : (flushA S T A B).set k true = flushA S T A fun j => B j || decide (j = k) := by
  refine getD_ext (by rw [List.length_set, flushA_length, flushA_length]) fun j hj => ?_
  rw [List.length_set, flushA_length] at hj
  rw [getD_set _ _ _ _ (by rw [flushA_length]; exact hk), flushA_get _ _ _ _ _ hj, flushA_get _ _ _ _ _ hj]
  by_cases e : j = k
  · subst e; simp [hd]
  · simp [e]
theorem flushA_skip (S T : List UInt8) (A : List Bool) (B : Nat → Bool) (k : Nat) (hd : dirtyB S T k = false) : flushA S T A B = flushA S T A fun j => B j || decide (j = k) :=
  flushA_congr S T A fun j _ hj => by
    by_cases e : j = k
    · subst e; rw [hd] at hj; cases hj
    · simp [e]
/-- Does a pick let a cell last? -/
def oddP (p : Int) : Bool := (p % 2 != 0) != decide (p < 0)
/-- The cells that the first i picks let last. -/
def crashB (l pk : List Int) : Nat → Nat → Bool
  | 0 => fun _ => false
  | i + 1 => fun k => crashB l pk i k || (decide (l[i]? = some (k : Int)) && decide (i < pk.length) && oddP (pk.getD i 0))
theorem crashB_skip {l pk : List Int} {i : Nat} (h : i < pk.length → oddP (pk.getD i 0) = false) : crashB l pk (i + 1) = crashB l pk i := by
  funext k
  simp only [crashB]
  by_cases hi : i < pk.length
  · rw [h hi]; simp
  · rw [decide_eq_false hi]; simp
theorem crashB_go {l pk : List Int} {i k0 : Nat} (hl : l[i]? = some (k0 : Int)) (hi : i < pk.length) (ho : oddP (pk.getD i 0) = true) : crashB l pk (i + 1) = fun k => crashB l pk i k || k == k0 := by
  funext k
  simp only [crashB, hl, ho, decide_eq_true hi, Bool.and_true]
  congr 1
  by_cases e : k = k0
  · subst e; simp
  · rw [beq_false_of_ne e]; apply decide_eq_false; intro q; injection q with q; omega
theorem crashB_after {l pk : List Int} {i : Nat} (hi : pk.length ≤ i) : ∀ j, crashB l pk (i + j) = crashB l pk i := by
  intro j
  induction j with
  | zero => rfl
  | succ j ih => rw [← ih]; exact crashB_skip fun q => by (have q2 : i + j < pk.length := q; omega)
/-- Cells from c on are no longer on their way. -/
def clrC (A : List Bool) (c : Nat) : Nat → List Bool
  | 0 => A
  | n + 1 => (clrC A c n).set (c + n) false
theorem clrC_length (A : List Bool) (c n : Nat) : (clrC A c n).length = A.length := by
  induction n with
  | zero => rfl
  | succ n ih => simp [clrC, ih]
def inC (c n : Nat) (k : Nat) : Bool := decide (c ≤ k ∧ k < c + n)
theorem mixL_inC (S T : List UInt8) (c n : Nat) : keepN S (mixL S T (inC c n)) (8 * (c + n)) 8 = mixL S T (inC c (n + 1)) := by
  rw [mixL_keep]
  refine mixL_congr S T fun k _ => ?_
  simp only [inC]
  by_cases h : k = c + n
  · subst h; simp
  · rw [beq_false_of_ne h, Bool.or_false]; congr 1; apply propext; omega
end Go.Proofs.Ytlinlmimakealaa
