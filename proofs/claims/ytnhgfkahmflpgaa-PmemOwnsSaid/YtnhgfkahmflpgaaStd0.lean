/- Steps over slices of bytes and rows, in words that last from call to call (the part that asks for no function of the program). No statement of the seat is proved here. -/
import Derived.Test.YtnhgfkahmflpgaaRow
import Derived.Deep.Onto
namespace Go.Proofs.Ytnhgfkahmflpgaa
open Go.RowKit

theorem RB.lit' (w : World) (t : TypeId) (cs : Array Value) (fz : Nat × Nat) (bs : List UInt8) (h : cs = (bvs bs).toArray) : RB (w.alloc (.cells cs t fz)) (w.alloc (.cells cs t fz)).heap.size (some ⟨w.heap.size, 0, none⟩) bs := by
  subst h
  refine ⟨by simp [bvs], fun _ => ⟨_, _, rfl, by simp, fun j u hu => ?_⟩⟩
  rw [cell_of_row _ _ (0 + j) (bvs bs).toArray t fz (heap_alloc_new w _)]
  simpa using hu

/-- What was there is as it was. -/
def Grow (w w' : World) : Prop := Below w.heap.size w w'
section
variable {a b c w w' : World} {A : Option Addr} {n : Nat} {bs : List UInt8}
theorem Grow.refl (w : World) : Grow w w := Below.refl _ _
theorem Grow.size (h : Grow a b) : a.heap.size ≤ b.heap.size := Below.size h
theorem Grow.trans (h : Grow a b) (g : Grow b c) : Grow a c := Below.trans h (Below.mono g (Below.size h))
theorem Grow.low (h : Grow a b) (g : Below a.heap.size b c) : Grow a c := Below.trans h g
theorem Grow.alloc (h : Grow a b) (o : Obj) : Grow a (b.alloc o) := Below.alloc h (Below.size h) o
theorem Grow.drew (h : Grow a b) : Grow a b.drew := Below.drew h
theorem Grow.drewN (h : Grow a b) (k : Nat) : Grow a (b.drewN k) := below_drewN h k
theorem Grow.setCell (h : Grow a b) {p : Addr} (hp : a.heap.size ≤ p.block) (v : Value) : Grow a (b.setCell p v) := Below.setCell h hp v
theorem Grow.ofBelow {B : Nat} (h : Below B a b) (hB : B = a.heap.size) : Grow a b := by subst hB; exact h
theorem Grow.cells (h : Grow a b) : (∀ k o, k < a.heap.size → b.cell? ⟨k, o, none⟩ = a.cell? ⟨k, o, none⟩) ∧ (∀ k o, k < a.heap.size → b.frozen? ⟨k, o, none⟩ = a.frozen? ⟨k, o, none⟩) :=
  ⟨fun k o hk => Below.cell h (p := ⟨k, o, none⟩) hk, fun k o hk => Below.frozen h (p := ⟨k, o, none⟩) hk⟩
theorem Grow.cell (h : Grow a b) {p : Addr} {v : Value} (hc : a.cell? p = some v) : b.cell? p = some v := by
  obtain ⟨k, o, s⟩ := p
  have hs := World.cell?_spot hc
  simp at hs
  subst hs
  have := World.block_lt_of_cell? a _ hc
  exact (Below.cell h (p := ⟨k, o, none⟩) this).trans hc

theorem setCell_again (w : World) (b o : Nat) (v v' : Value) : (w.setCell ⟨b, o, none⟩ v).setCell ⟨b, o, none⟩ v' = w.setCell ⟨b, o, none⟩ v' := by
  unfold World.setCell
  congr 1
  apply Array.ext
  · simp
  · intro i h1 h2
    simp only [Array.getElem_modify]
    split
    · cases w.heap[i]'(by simpa using h2) <;> simp
    · rfl

theorem cell_set_eq {w : World} {p : Addr} {u v : Value} (h : w.cell? p = some u) : (w.setCell p v).cell? p = some v := World.cell?_setCell_same _ _ _ h
theorem cell_set_ne {w : World} {p q : Addr} {u v : Value} (h : w.cell? q = some v) (hn : p.block ≠ q.block) : (w.setCell p u).cell? q = some v := (World.cell?_setCell_other _ _ _ _ fun e => hn (by rw [e])).trans h
theorem cell_alloc {w : World} {o : Obj} {p : Addr} {v : Value} (h : w.cell? p = some v) : (w.alloc o).cell? p = some v := ((Grow.refl w).alloc o).cell h

/-- A slice of n bytes that is read in this world. -/
def Sl (w : World) (A : Option Addr) (n : Nat) (bs : List UInt8) : Prop := bs.length = n ∧ n ≤ 1073741000 ∧ RB w w.heap.size A bs
theorem Sl.keep (h : Sl w A n bs) (g : Grow w w') : Sl w' A n bs := ⟨h.1, h.2.1, (h.2.2.below g).more (Below.size g)⟩
theorem Sl.alloc (h : Sl w A n bs) (o : Obj) : Sl (w.alloc o) A n bs := h.keep ((Grow.refl w).alloc o)
theorem Sl.drewN (h : Sl w A n bs) (k : Nat) : Sl (w.drewN k) A n bs := h.keep ((Grow.refl w).drewN k)
theorem Sl.drew (h : Sl w A n bs) : Sl w.drew A n bs := h.keep ((Grow.refl w).drew)
theorem Sl.nil : Sl w A 0 [] := ⟨rfl, by omega, RB.nil_⟩
theorem Sl.len (h : Sl w A n bs) : bs.length = n := h.1
theorem Sl.take (h : Sl w A n bs) {k : Nat} (hk : k ≤ n) : Sl w A k (bs.take k) := ⟨by have := h.1; simp; omega, by have := h.2.1; omega, h.2.2.take (by have := h.1; omega)⟩
theorem Sl.ofRB (h : RB w w.heap.size A bs) (hn : bs.length = n) (hl : n ≤ 1073741000) : Sl w A n bs := ⟨hn, hl, h⟩
theorem Sl.ofTake (h : RB w w.heap.size A bs) (hn : n ≤ bs.length) (hl : n ≤ 1073741000) : Sl w A n (bs.take n) := ⟨by simp; omega, hl, h.take hn⟩
theorem Sl.drop (h : Sl w A n bs) {k c : Nat} (hk : k ≤ n) (hc : n ≤ c) : Sl w (if c = k then A else A.map (·.add k)) (n - k) (bs.drop k) :=
  ⟨by have := h.1; simp; omega, by have := h.2.1; omega, h.2.2.drop (by have := h.1; omega) (by have := h.1; omega)⟩
theorem Sl.cell (h : Sl w A n bs) {k : Nat} (hk : k < n) : ∃ b o, A = some ⟨b, o, none⟩ ∧ b < w.heap.size ∧ w.cell? ⟨b, o + k, none⟩ = some (.int .u8 ((bs[k]'(by have := h.1; omega)).toNat : Int)) := h.2.2.at_ (by have := h.1; omega)
theorem Sl.all (h : Sl w A n bs) (h0 : 0 < n) : ∃ b o, A = some ⟨b, o, none⟩ ∧ b < w.heap.size ∧ ∀ k (hk : k < n), w.cell? ⟨b, o + k, none⟩ = some (.int .u8 ((bs[k]'(by have := h.1; omega)).toNat : Int)) := by
  obtain ⟨b, o, e, hb, hc⟩ := h.2.2.all (by have := h.1; omega)
  exact ⟨b, o, e, hb, fun k hk => hc k (by have := h.1; omega)⟩
theorem Sl.lit (w : World) (t : TypeId) (cs : Array Value) (bs : List UInt8) (n : Nat) (hn : bs.length = n) (h : cs = (bvs bs).toArray) (hl : n ≤ 1073741000) : Sl (w.alloc (.cells cs t)) (some ⟨w.heap.size, 0, none⟩) n bs :=
  ⟨hn, hl, by have := RB.lit w t cs bs h; simpa using this⟩

theorem Sl.litf (w : World) (t : TypeId) (cs : Array Value) (fz : Nat × Nat) (bs : List UInt8) (n : Nat) (hn : bs.length = n) (h : cs = (bvs bs).toArray) (hl : n ≤ 1073741000) : Sl (w.alloc (.cells cs t fz)) (some ⟨w.heap.size, 0, none⟩) n bs :=
  ⟨hn, hl, RB.lit' w t cs fz bs h⟩

/-- A slice of n bytes of the call's own: what lies below 'base' is none of it. -/
def Own (w : World) (base : Nat) (A : Option Addr) (n c : Nat) (bs : List UInt8) : Prop := bs.length = n ∧ n ≤ 1073741000 ∧ OB w base (.slice A n c) bs
theorem Own.sl {base c' : Nat} (h : Own w base A n c' bs) : Sl w A n bs := by
  obtain ⟨h1, h2, h3⟩ := h
  obtain ⟨A', c2, e, -, -, hr, -⟩ := h3.form
  injection e with e1 e2 e3
  subst e1
  exact ⟨h1, h2, hr⟩
theorem Own.low {base B : Nat} {c' : Nat} (h : Own w base A n c' bs) (hB : B ≤ base) : Own w B A n c' bs := ⟨h.1, h.2.1, World.ownsRow.mono h.2.2 hB⟩
theorem Own.cap {base : Nat} {c' : Nat} (h : Own w base A n c' bs) : n ≤ c' := by
  obtain ⟨A', c2, e, h1, -, -, -⟩ := h.2.2.form
  injection e with e1 e2 e3
  omega
theorem Own.row {base c' : Nat} (h : Own w base A n c' bs) (h0 : 0 < n) : ∃ g, A = some ⟨g, 0, none⟩ ∧ base ≤ g ∧ g < w.heap.size := by
  obtain ⟨h1, h2, h3⟩ := h
  obtain ⟨A', c2, e, -, -, hr, hb⟩ := h3.form
  injection e with e1 e2 e3
  subst e1
  obtain ⟨b, o, e, -⟩ := hr.2 (by omega)
  obtain ⟨q1, q2, q3⟩ := hb _ e
  injection q3 with q4 q5
  refine ⟨b, ?_, q1, q2⟩
  rw [e, q5]
theorem Own.alloc {base : Nat} {c' : Nat} (h : Own w base A n c' bs) (o : Obj) : Own (w.alloc o) base A n c' bs := ⟨h.1, h.2.1, h.2.2.alloc o⟩
theorem Own.ofOB {base : Nat} {v : Value} (h : OB w base v bs) (m : Nat) (hm : bs.length = m) (hl : m ≤ 1073741000) : ∃ A c, v = .slice A m c ∧ Own w base A m c bs := by
  obtain ⟨A, c, rfl, -, -, -, -⟩ := h.form
  exact ⟨A, c, by rw [hm], hm, hl, by rw [← hm]; exact h⟩
theorem Own.nil (w : World) (base : Nat) : Own w base none 0 0 [] := ⟨rfl, by omega, OB.nil w base⟩
end

/-- The cells of block g, from the first on. -/
def Blk (w : World) (g : Nat) (vs : List Value) : Prop := g < w.heap.size ∧ ∀ j v, vs[j]? = some v → w.cell? ⟨g, j, none⟩ = some v
theorem Blk.keep {w w' : World} {g : Nat} {vs : List Value} (h : Blk w g vs) (k : Grow w w') : Blk w' g vs := ⟨Nat.lt_of_lt_of_le h.1 k.size, fun j v hv => k.cell (h.2 j v hv)⟩
theorem Blk.below {w w' : World} {g B : Nat} {vs : List Value} (h : Blk w g vs) (k : Below B w w') (hg : g < B) : Blk w' g vs := ⟨Nat.lt_of_lt_of_le h.1 k.size, fun j v hv => (k.cell (p := ⟨g, j, none⟩) hg).trans (h.2 j v hv)⟩
theorem Blk.new (w : World) (t : TypeId) (vs : List Value) (cs : Array Value) (fz : Nat × Nat) (h : cs = vs.toArray) : Blk (w.alloc (.cells cs t fz)) w.heap.size vs := by
  subst h
  refine ⟨by simp, fun j v hv => ?_⟩
  rw [cell_of_row _ _ j vs.toArray t fz (heap_alloc_new w _)]
  simpa using hv
section
variable {w : World} {g : Nat} {a b c d e f : Value}
theorem Blk.c1 (h : Blk w g [a]) : w.cell? ⟨g, 0, none⟩ = some a := h.2 0 _ rfl
theorem Blk.c2 (h : Blk w g [a, b]) : w.cell? ⟨g, 0, none⟩ = some a ∧ w.cell? ⟨g, 1, none⟩ = some b := ⟨h.2 0 _ rfl, h.2 1 _ rfl⟩
theorem Blk.c3 (h : Blk w g [a, b, c]) : w.cell? ⟨g, 0, none⟩ = some a ∧ w.cell? ⟨g, 1, none⟩ = some b ∧ w.cell? ⟨g, 2, none⟩ = some c := ⟨h.2 0 _ rfl, h.2 1 _ rfl, h.2 2 _ rfl⟩
theorem Blk.c4 (h : Blk w g [a, b, c, d]) : w.cell? ⟨g, 0, none⟩ = some a ∧ w.cell? ⟨g, 1, none⟩ = some b ∧ w.cell? ⟨g, 2, none⟩ = some c ∧ w.cell? ⟨g, 3, none⟩ = some d := ⟨h.2 0 _ rfl, h.2 1 _ rfl, h.2 2 _ rfl, h.2 3 _ rfl⟩
theorem Blk.c5 (h : Blk w g [a, b, c, d, e]) : w.cell? ⟨g, 0, none⟩ = some a ∧ w.cell? ⟨g, 1, none⟩ = some b ∧ w.cell? ⟨g, 2, none⟩ = some c ∧ w.cell? ⟨g, 3, none⟩ = some d ∧ w.cell? ⟨g, 4, none⟩ = some e := ⟨h.2 0 _ rfl, h.2 1 _ rfl, h.2 2 _ rfl, h.2 3 _ rfl, h.2 4 _ rfl⟩
theorem Blk.c6 (h : Blk w g [a, b, c, d, e, f]) : w.cell? ⟨g, 0, none⟩ = some a ∧ w.cell? ⟨g, 1, none⟩ = some b ∧ w.cell? ⟨g, 2, none⟩ = some c ∧ w.cell? ⟨g, 3, none⟩ = some d ∧ w.cell? ⟨g, 4, none⟩ = some e ∧ w.cell? ⟨g, 5, none⟩ = some f := ⟨h.2 0 _ rfl, h.2 1 _ rfl, h.2 2 _ rfl, h.2 3 _ rfl, h.2 4 _ rfl, h.2 5 _ rfl⟩
end

theorem Blk.set_ne {w : World} {g : Nat} {vs : List Value} {p : Addr} {v : Value} (h : Blk w g vs) (hn : p.block ≠ g) : Blk (w.setCell p v) g vs := ⟨by simpa using h.1, fun j u hu => cell_set_ne (h.2 j u hu) hn⟩
theorem Blk.set {w : World} {g : Nat} {vs : List Value} {v : Value} (h : Blk w g vs) {j : Nat} (hj : j < vs.length) : Blk (w.setCell ⟨g, j, none⟩ v) g (vs.set j v) := by
  refine ⟨by simpa using h.1, fun i u hu => ?_⟩
  by_cases e : j = i
  · subst e
    obtain rfl : v = u := by simpa [List.getElem?_set, hj] using hu
    exact cell_set_eq (h.2 j _ (List.getElem?_eq_getElem hj))
  · rw [List.getElem?_set_ne e] at hu
    exact (World.cell?_setCell_other _ _ _ _ (fun e2 => e (by injection e2))).trans (h.2 i u hu)
/-- The cells of block g, none of them frozen. -/
def Row (w : World) (g : Nat) (vs : List Value) : Prop := Blk w g vs ∧ ∀ j, j < vs.length → w.frozen? ⟨g, j, none⟩ = false
theorem Row.keep {w w' : World} {g : Nat} {vs : List Value} (h : Row w g vs) (k : Grow w w') : Row w' g vs := ⟨h.1.keep k, fun j hj => (k.cells.2 g j h.1.1).trans (h.2 j hj)⟩
theorem Row.new (w : World) (t : TypeId) (vs : List Value) (cs : Array Value) (h : cs = vs.toArray) : Row (w.alloc (.cells cs t)) w.heap.size vs := by
  refine ⟨Blk.new w t vs cs (0, 0) h, fun j _ => ?_⟩
  exact frozen_of_row _ _ j _ t (heap_alloc_new w _)
theorem Row.set_ne {w : World} {g : Nat} {vs : List Value} {p : Addr} {v : Value} (h : Row w g vs) (hn : p.block ≠ g) : Row (w.setCell p v) g vs := ⟨h.1.set_ne hn, fun j hj => by simpa using h.2 j hj⟩
theorem Row.set {w : World} {g : Nat} {vs : List Value} {v : Value} (h : Row w g vs) {j : Nat} (hj : j < vs.length) : Row (w.setCell ⟨g, j, none⟩ v) g (vs.set j v) := ⟨h.1.set hj, fun i hi => by rw [List.length_set] at hi; simpa using h.2 i hi⟩

theorem ints_new (w : World) (t : TypeId) (ns : List Int) (cs : Array Value) (h : cs = (ns.map (Value.int .i64)).toArray) : ∀ j (_ : j < ns.length), (w.alloc (.cells cs t)).cell? ⟨w.heap.size, 0 + j, none⟩ = some (.int .i64 ns[j]) := by
  subst h
  intro j hj
  rw [cell_of_row _ _ (0 + j) (ns.map (Value.int .i64)).toArray t (0, 0) (heap_alloc_new w _)]
  simp [hj]

theorem ints_at (w : World) (t : TypeId) (b : Nat) (ns : List Int) (cs : Array Value) (hb : b = w.heap.size) (h : cs = (ns.map (Value.int .i64)).toArray) : ∀ j (_ : j < ns.length), (w.alloc (.cells cs t)).cell? ⟨b, 0 + j, none⟩ = some (.int .i64 ns[j]) := by
  subst hb
  exact ints_new w t ns cs h

theorem Own.lit (w : World) (cs : Array Value) (bs : List UInt8) (n base : Nat) (hn : bs.length = n) (h : cs = (bvs bs).toArray) (hl : n ≤ 1073741000) (hB : base ≤ w.heap.size) : Own (w.alloc (.cells cs 5)) base (some ⟨w.heap.size, 0, none⟩) n n bs := by
  subst hn h
  refine ⟨rfl, hl, ?_⟩
  unfold OB World.ownsRow
  refine ⟨by simp [bvs], .inr ⟨w.heap.size, bs.length, (bvs bs).toArray, rfl, hB, heap_alloc_new w _, Nat.le_refl _, by unfold maxLen; omega, by simp [bvs], ?_⟩⟩
  rw [List.take_of_length_le (by simp [bvs])]
theorem byte_int (n : Int) (h0 : 0 ≤ n) (h : n < 256) : ((UInt8.ofNat (n.toNat % 256)).toNat : Int) = n := by simp; omega
theorem pad_next (bs : List UInt8) (j : Nat) : bs ++ List.replicate j 0 ++ [0] = bs ++ List.replicate (j + 1) 0 := by
  rw [List.append_assoc, List.replicate_succ']
def lenV : Value → Nat
  | .slice _ n _ => n
  | _ => 0

end Go.Proofs.Ytnhgfkahmflpgaa
