/- A memory as it lies in the heap: two rows of cells, a set of numbers. What the verbs of a memory do, as plain words over lists. No program here; no statement of the seat is proved here. pmem: Size, within, bytes, Load, Lasts. pmem: Store, keep. No statement of the seat is proved here. -/
import Derived.Test.YtncjfljmnkfghaaZ02
import Derived.Maps.OwnSet
import Derived.Maps.Range
namespace Go.Proofs.Ytncjfljmnkfghaa
open Go.RowKit Go.Maps

/-- Of what was there only blocks of F have turned. -/
structure Turn (F : Nat → Prop) (w w' : World) : Prop where
  os : w'.os = w.os
  tape : w'.tape = w.tape
  output : w'.output = w.output
  size : w.heap.size ≤ w'.heap.size
  block : ∀ k, k < w.heap.size → ¬ F k → w'.heap[k]? = w.heap[k]?
section
variable {F G : Nat → Prop} {a b c : World}
theorem Turn.refl (F : Nat → Prop) (w : World) : Turn F w w := ⟨rfl, rfl, rfl, Nat.le_refl _, fun _ _ _ => rfl⟩
theorem Turn.trans (h : Turn F a b) (k : Turn G b c) (hg : ∀ i, G i → F i ∨ a.heap.size ≤ i) : Turn F a c :=
  ⟨k.os.trans h.os, k.tape.trans h.tape, k.output.trans h.output, Nat.le_trans h.size k.size, fun i hi hn =>
    (k.block i (Nat.lt_of_lt_of_le hi h.size) (fun q => (hg i q).elim hn (fun q => by omega))).trans (h.block i hi hn)⟩
theorem Turn.and (h : Turn F a b) (k : Turn F b c) : Turn F a c := h.trans k fun _ q => .inl q
theorem Turn.mono (h : Turn F a b) (hg : ∀ i, F i → G i) : Turn G a b := ⟨h.os, h.tape, h.output, h.size, fun i hi hn => h.block i hi fun q => hn (hg i q)⟩
theorem Turn.grow (h : Grow a b) (F : Nat → Prop) : Turn F a b := ⟨h.os, h.tape, h.output, h.size, fun i hi _ => h.block i hi⟩
theorem Turn.andGrow (h : Turn F a b) (k : Grow b c) : Turn F a c := h.and (Turn.grow k F)
theorem Turn.grown {row : Option Nat} (h : a.grownBy b row) (hr : ∀ j, row = some j → F j) : Turn F a b := ⟨h.os, h.tape, h.output, h.size, fun i hi hn => h.block i hi fun q => hn (hr i q.symm)⟩
theorem Turn.low {B : Nat} (h : Turn F a b) (hF : ∀ i, F i → B ≤ i) (hB : B ≤ a.heap.size) : Below B a b := ⟨h.os, h.tape, h.output, h.size, fun i hi => h.block i (by omega) fun q => by have := hF i q; omega⟩
theorem Turn.setCell (w : World) {p : Addr} (hp : F p.block) (v : Value) : Turn F w (w.setCell p v) := ⟨rfl, rfl, rfl, by simp, fun i _ hn => Below.heap_setCell _ _ _ _ fun e => hn (e ▸ hp)⟩
theorem Turn.cell (h : Turn F a b) {p : Addr} (hp : p.block < a.heap.size) (hn : ¬ F p.block) : b.cell? p = a.cell? p := World.cell?_of_block (h.block _ hp hn)
theorem Turn.frozen (h : Turn F a b) {p : Addr} (hp : p.block < a.heap.size) (hn : ¬ F p.block) : b.frozen? p = a.frozen? p := World.frozen?_of_block (h.block _ hp hn)
end

/-- Block g is a row of n elements of 'size' cells, room for c: the cells xs. -/
def CR (w : World) (g : Nat) (e : TypeId) (size n c : Nat) (xs : List Value) : Prop := xs.length = n * size ∧ n ≤ c ∧ c ≤ maxLen ∧ ∃ cur, w.heap[g]? = some (.cells cur e) ∧ cur.size = c * size ∧ cur.toList.take (n * size) = xs
section
variable {w w' : World} {g size n c base : Nat} {e : TypeId} {xs : List Value} {F : Nat → Prop}
theorem CR.row (h : CR w g e size n c xs) (hb : base ≤ g) : w.ownsRow base e size (.slice (some ⟨g, 0, none⟩) n c) n xs := by
  obtain ⟨h1, h2, h3, cur, h4, h5, h6⟩ := h
  exact ⟨h1, .inr ⟨g, c, cur, rfl, hb, h4, h2, h3, h5, h6⟩⟩
theorem CR.of_row (h : w.ownsRow base e size (.slice (some ⟨g, 0, none⟩) n c) n xs) : CR w g e size n c xs := by
  rcases h.2 with ⟨h0, _⟩ | ⟨g', c', cur, hv, _, h4, h2, h3, h5, h6⟩
  · cases h0
  · injection hv with e1 e2 e3
    injection e1 with e1
    injection e1 with e1
    subst e1 e3
    exact ⟨h.1, h2, h3, cur, h4, h5, h6⟩
theorem CR.lt (h : CR w g e size n c xs) : g < w.heap.size := by
  obtain ⟨_, _, _, cur, h4, _⟩ := h
  exact (Array.getElem?_eq_some_iff.1 h4).1
theorem CR.same (h : CR w g e size n c xs) (hk : w'.heap[g]? = w.heap[g]?) : CR w' g e size n c xs := by
  obtain ⟨h1, h2, h3, cur, h4, h5⟩ := h
  exact ⟨h1, h2, h3, cur, hk.trans h4, h5⟩
theorem CR.turn (h : CR w g e size n c xs) (t : Turn F w w') (hg : ¬ F g) : CR w' g e size n c xs := h.same (t.block g h.lt hg)
theorem CR.cell (h : CR w g e size n c xs) {j : Nat} {u : Value} (hj : xs[j]? = some u) : w.cell? ⟨g, j, none⟩ = some u := by
  have := World.ownsRow.cells (h.row (Nat.zero_le _)) (g := g) rfl j u hj
  simpa [Addr.add_lit] using this
theorem CR.frozen (h : CR w g e size n c xs) (j : Nat) : w.frozen? ⟨g, j, none⟩ = false := World.ownsRow.frozenAt (h.row (Nat.zero_le _)) j
theorem CR.set (h : CR w g e size n c xs) (j : Nat) (v : Value) : CR (w.setCell ⟨g, j, none⟩ v) g e size n c (xs.set j v) := CR.of_row (World.ownsRow.stored (h.row (Nat.zero_le _)) j v).1
theorem CR.set_ne (h : CR w g e size n c xs) {p : Addr} (hp : p.block ≠ g) (v : Value) : CR (w.setCell p v) g e size n c xs := h.same (Below.heap_setCell _ _ _ _ (Ne.symm hp))
theorem CR.alloc (h : CR w g e size n c xs) (o : Obj) : CR (w.alloc o) g e size n c xs := h.turn (Turn.grow ((Grow.refl w).alloc o) fun _ => False) (fun q => q)
end

/-! ### the set -/
theorem pigeon : ∀ (N : Nat) (l : List Nat), l.Nodup → (∀ x ∈ l, x < N) → l.length ≤ N := by
  intro N
  induction N with
  | zero => intro l _ h; cases l with | nil => simp | cons x l => exact absurd (h x (by simp)) (by omega)
  | succ N ih =>
    intro l hn h
    by_cases hm : N ∈ l
    · have h1 := ih (l.erase N) (hn.erase N) (fun x hx => by
        have h2 := hn.mem_erase_iff.1 hx
        have := h x h2.2
        omega)
      rw [List.length_erase_of_mem hm] at h1
      omega
    · have := ih l hn (fun x hx => by
        have h1 := h x hx
        have h2 : x ≠ N := fun e => hm (e ▸ hx)
        omega)
      omega

def keyL (k : Nat) : Lit := .int .i64 (k : Int)
theorem int_keyed' : Keyed Try.prog 3 := int_keyed Try.underlying3
/-- Block b is a map that has just the numbers at which A is true, each below A's length. -/
def SetIs (w : World) (b : Nat) (A : List Bool) : Prop := ∃ D : DataW Unit, w.ownsMap Try.prog 3 (plainElem Try.prog 4) b A.length D ∧ ∀ kl, Maps.has D kl = true ↔ ∃ k, kl = keyL k ∧ A[k]? = some true

theorem owns_shrink {w : World} {b n N : Nat} {D : DataW Unit} (h : w.ownsMap Try.prog 3 (plainElem Try.prog 4) b n D) (hk : ∀ kl, Maps.has D kl = true → ∃ k, kl = keyL k ∧ k < N) : w.ownsMap Try.prog 3 (plainElem Try.prog 4) b N D := by
  obtain ⟨es, hD, hp, hl⟩ := h.entries int_keyed'
  have hsz : es.length ≤ N := by
    have hnat : ∀ p ∈ es, ∃ k : Nat, p.1 = keyL k ∧ k < N := fun p hm => hk p.1 (by rw [hD]; exact List.any_eq_true.2 ⟨p, hm, WideAt.sameKey_self (hl p hm)⟩)
    let f : Lit × DataW Unit → Nat := fun p => match p.1 with | .int _ z => z.toNat | _ => 0
    have hf : ∀ p ∈ es, p.1 = keyL (f p) ∧ f p < N := by
      intro p hm
      obtain ⟨k, h1, h2⟩ := hnat p hm
      have : f p = k := by simp [f, h1, keyL]
      rw [this]; exact ⟨h1, h2⟩
    have := pigeon N (es.map f) (by
      refine List.pairwise_map.2 (List.Pairwise.imp_of_mem ?_ hp)
      intro p q hpm hqm hne he
      exact hne (by rw [(hf p hpm).1, (hf q hqm).1, he])) (fun x hx => by
      obtain ⟨p, hm, rfl⟩ := List.mem_map.1 hx
      exact (hf p hm).2)
    simpa using this
  obtain ⟨es', clock, h1, h2, h3, h4⟩ := h
  refine ⟨es', clock, h1, h2, ?_, h4⟩
  rw [h4] at hD
  injection hD with hD
  rw [← hD, length_sorted] at hsz
  simpa using hsz

theorem SetIs.made (w : World) (N : Nat) : SetIs (w.alloc (.map #[] 0)) w.heap.size (List.replicate N false) := by
  refine ⟨_, (World.ownsMap_made w _ _ _).mono (Nat.zero_le _), fun kl => ?_⟩
  simp [Maps.has, List.getElem?_replicate]
theorem SetIs.kept {w w' : World} {b : Nat} {A : List Bool} (h : SetIs w b A) (hk : w'.heap[b]? = w.heap[b]?) : SetIs w' b A := by
  obtain ⟨D, ⟨es, clock, h1, h2⟩, h3⟩ := h
  exact ⟨D, ⟨es, clock, hk.trans h1, h2⟩, h3⟩
theorem SetIs.lt {w : World} {b : Nat} {A : List Bool} (h : SetIs w b A) : b < w.heap.size := by obtain ⟨D, h, _⟩ := h; exact h.lt
theorem SetIs.turn {w w' : World} {F : Nat → Prop} {b : Nat} {A : List Bool} (h : SetIs w b A) (t : Turn F w w') (hg : ¬ F b) : SetIs w' b A := h.kept (t.block b h.lt hg)
theorem set_get (A : List Bool) (k j : Nat) (v : Bool) (hk : k < A.length) : (A.set k v)[j]? = if j = k then some v else A[j]? := by
  by_cases e : j = k
  · subst e; simp [hk]
  · rw [List.getElem?_set_ne (Ne.symm e), if_neg e]
theorem keyL_inj {a b : Nat} (h : keyL a = keyL b) : a = b := by
  unfold keyL at h
  injection h with _ h
  omega
theorem keyL_is (k : Nat) : WideAt.IsKeyLit (keyL k) := trivial

section
variable {w : World} {ops : Array Oper} {rest : List Oper} {o : Oper} {a : Act} {Q : Exit → Act → World → Prop} {b : Nat} {A : List Bool}
/-- 'm[k] = true'. -/
theorem wpList_setPut (hg : o.guard = none) (m x v : Operand) (hop : o.op = Op.mapUpdate 80 m x v) (hm : a.eval m = .map (some b)) (h : SetIs w b A) (k : Nat) (hk : k < A.length) (hA : A.length ≤ 1000000) (hx : a.eval x = .int .i64 (k : Int)) (hv : a.eval v = .bool true)
    (hK : ∀ w', SetIs w' b (A.set k true) → w.grownBy w' (some b) → wpList Try.prog ops Q rest (a.put o.dst undef) w') : wpList Try.prog ops Q (o :: rest) a w := by
  obtain ⟨D, h1, h2⟩ := h
  refine wpList_mapUpdate_in w hg m x v 80 hop 3 4 int_keyed' Try.underlying80 _ b A.length D hm h1 (by unfold maxLen; omega) _ _ (keyL k) hx hv (keyOf_int_mk Try.underlying3 (WalkArith.wf_i64 (by omega))) _ [] (plainElem_bool Try.underlying4 true) ?_
  intro w' h3 h4
  have hh : ∀ kl, Maps.has (D.put (keyL k) (.lit (.bool true))) kl = true ↔ ∃ j, kl = keyL j ∧ (A.set k true)[j]? = some true := by
    intro kl
    by_cases e : kl = keyL k
    · subst e
      rw [Maps.has_put_same h1.isMap (keyL_is k)]
      exact ⟨fun _ => ⟨k, rfl, by rw [set_get A k k true hk, if_pos rfl]⟩, fun _ => rfl⟩
    · rw [Maps.has_put_other e, h2]
      constructor
      · rintro ⟨j, rfl, hj⟩
        refine ⟨j, rfl, ?_⟩
        rw [set_get A k j true hk, if_neg (fun q => e (by rw [q]))]
        exact hj
      · rintro ⟨j, rfl, hj⟩
        refine ⟨j, rfl, ?_⟩
        rw [set_get A k j true hk, if_neg (fun q => e (by rw [q]))] at hj
        exact hj
  refine hK w' ⟨_, owns_shrink h3 (fun kl hkl => ?_), hh⟩ h4.grown
  obtain ⟨j, h5, h6⟩ := (hh kl).1 hkl
  exact ⟨j, h5, (List.getElem?_eq_some_iff.1 h6).1⟩
theorem has_del {D : DataW Unit} (h2 : ∀ kl, Maps.has D kl = true ↔ ∃ k, kl = keyL k ∧ A[k]? = some true) {k : Nat} (hk : k < A.length) : ∀ kl, Maps.has (D.del (keyL k)) kl = true ↔ ∃ j, kl = keyL j ∧ (A.set k false)[j]? = some true := by
  intro kl
  by_cases e : kl = keyL k
  · subst e
    rw [Maps.has_del_same]
    constructor
    · intro h; cases h
    · rintro ⟨j, h3, h4⟩
      have := keyL_inj h3
      subst this
      rw [set_get A k k false hk, if_pos rfl] at h4
      cases h4
  · rw [Maps.has_del_other e, h2]
    constructor
    · rintro ⟨j, rfl, hj⟩
      refine ⟨j, rfl, ?_⟩
      rw [set_get A k j false hk, if_neg (fun q => e (by rw [q]))]
      exact hj
    · rintro ⟨j, rfl, hj⟩
      refine ⟨j, rfl, ?_⟩
      rw [set_get A k j false hk, if_neg (fun q => e (by rw [q]))] at hj
      exact hj
/-- 'delete(m, k)'. -/
theorem wpList_setDel (hg : o.guard = none) (m x : Operand) (hop : o.op = Op.call { callee := Callee.builtin Builtin.delete, args := #[m, x], argTypes := #[80, 3] }) (hm : a.eval m = .map (some b)) (h : SetIs w b A) (k : Nat) (hk : k < A.length) (hk2 : k ≤ 1000000) (hx : a.eval x = .int .i64 (k : Int))
    (hK : ∀ w', SetIs w' b (A.set k false) → w.grownBy w' (some b) → w'.heap.size = w.heap.size → wpList Try.prog ops Q rest (a.put o.dst (.tuple #[])) w') : wpList Try.prog ops Q (o :: rest) a w := by
  obtain ⟨D, h1, h2⟩ := h
  refine wpList_delete_own w hg m x 80 3 hop 4 int_keyed' Try.underlying80 _ b A.length D hm h1 _ (keyL k) hx (keyOf_int_mk Try.underlying3 (WalkArith.wf_i64 (by omega))) ?_
  intro w' h3 h4
  refine hK w' ⟨_, by rw [List.length_set]; exact h3, has_del h2 hk⟩ h4.grown ?_
  obtain ⟨es, clock, es', clock', _, rfl⟩ := h4
  simp [Go.ChangeMaps.setBlock]
end
end Go.Proofs.Ytncjfljmnkfghaa

namespace Go.Proofs.Ytncjfljmnkfghaa

def inW (L : Nat) (at_ n : Int) : Bool := decide (0 ≤ at_ ∧ 0 ≤ n ∧ at_ + n ≤ (L : Int))
theorem inW_iff {L : Nat} {at_ n : Int} : inW L at_ n = true ↔ 0 ≤ at_ ∧ 0 ≤ n ∧ at_ + n ≤ (L : Int) := by simp [inW]

/-- Bytes put one by one. -/
def putL (S : List UInt8) (i : Nat) : List UInt8 → List UInt8
  | [] => S
  | u :: bs => putL (S.set i u) (i + 1) bs
theorem putL_snoc (bs : List UInt8) (u : UInt8) : ∀ (S : List UInt8) (i : Nat), putL S i (bs ++ [u]) = (putL S i bs).set (i + bs.length) u := by
  induction bs with
  | nil => intro S i; rfl
  | cons v bs ih =>
    intro S i
    simp only [List.cons_append, putL, ih, List.length_cons]
    rw [show i + 1 + bs.length = i + (bs.length + 1) by omega]
theorem putL_length (bs : List UInt8) : ∀ (S : List UInt8) (i : Nat), (putL S i bs).length = S.length := by
  induction bs with
  | nil => intro S i; rfl
  | cons v bs ih => intro S i; simp [putL, ih]
theorem putL_take {S bs : List UInt8} {i k : Nat} (hk : k < bs.length) : putL S i (bs.take (k + 1)) = (putL S i (bs.take k)).set (i + k) bs[k] := by
  rw [List.take_succ_eq_append_getElem hk, putL_snoc, List.length_take, Nat.min_eq_left (by omega)]
/-- The cells of bytes that were put are no longer on their way. -/
def clrL (A : List Bool) (i : Nat) : Nat → List Bool
  | 0 => A
  | n + 1 => (clrL A i n).set ((i + n) / 8) false
theorem clrL_length (A : List Bool) (i n : Nat) : (clrL A i n).length = A.length := by
  induction n with
  | zero => rfl
  | succ n ih => simp [clrL, ih]

/-- Bytes as they are seen go where they last. -/
def keepN (S T : List UInt8) (i : Nat) : Nat → List UInt8
  | 0 => T
  | n + 1 => (keepN S T i n).set (i + n) (S.getD (i + n) 0)
theorem keepN_length (S T : List UInt8) (i n : Nat) : (keepN S T i n).length = T.length := by
  induction n with
  | zero => rfl
  | succ n ih => simp [keepN, ih]
theorem keepN_get (S T : List UInt8) (i n j : Nat) (hj : j < T.length) : (keepN S T i n).getD j 0 = if i ≤ j ∧ j < i + n then S.getD j 0 else T.getD j 0 := by
  induction n with
  | zero => rw [keepN, if_neg (by omega)]
  | succ n ih =>
    have hl := keepN_length S T i n
    rw [keepN, List.getD_eq_getElem?_getD]
    by_cases e : i + n = j
    · subst e
      rw [List.getElem?_set_self (by omega), if_pos (by omega)]
      rfl
    · rw [List.getElem?_set_ne e, ← List.getD_eq_getElem?_getD, ih]
      by_cases h : i ≤ j ∧ j < i + n
      · rw [if_pos h, if_pos (by omega)]
      · rw [if_neg h, if_neg (by omega)]
theorem ext_getD {A B : List UInt8} (hl : A.length = B.length) (h : ∀ j, j < A.length → A.getD j 0 = B.getD j 0) : A = B := by
  apply List.ext_getElem hl
  intro j h1 h2
  have := h j h1
  simpa [List.getD_eq_getElem?_getD, h1, h2] using this

/-- Of those cells the bytes as they are seen, of the others as they last. -/
def mixL (S T : List UInt8) (B : Nat → Bool) : List UInt8 := (List.range T.length).map fun j => if B (j / 8) then S.getD j 0 else T.getD j 0
theorem mixL_length (S T : List UInt8) (B : Nat → Bool) : (mixL S T B).length = T.length := by simp [mixL]
theorem mixL_get (S T : List UInt8) (B : Nat → Bool) (j : Nat) (hj : j < T.length) : (mixL S T B).getD j 0 = if B (j / 8) then S.getD j 0 else T.getD j 0 := by
  simp [mixL, List.getD_eq_getElem?_getD, hj]
theorem mixL_none (S T : List UInt8) {B : Nat → Bool} (h : ∀ k, B k = false) : mixL S T B = T := by
  refine ext_getD (mixL_length ..) fun j hj => ?_
  rw [mixL_length] at hj
  rw [mixL_get S T B j hj, if_neg (by rw [h]; decide)]
theorem mixL_keep (S T : List UInt8) (B : Nat → Bool) (k : Nat) : keepN S (mixL S T B) (8 * k) 8 = mixL S T fun j => B j || j == k := by
  refine ext_getD (by rw [keepN_length, mixL_length, mixL_length]) fun j hj => ?_
  rw [keepN_length, mixL_length] at hj
  rw [keepN_get _ _ _ _ _ (by rw [mixL_length]; exact hj), mixL_get _ _ _ _ hj, mixL_get _ _ _ _ hj]
  by_cases h : 8 * k ≤ j ∧ j < 8 * k + 8
  · have : j / 8 = k := by omega
    rw [if_pos h, if_pos (by simp [this])]
  · have : ¬ j / 8 = k := by omega
    rw [if_neg h]
    simp [this]
theorem mixL_congr (S T : List UInt8) {B C : Nat → Bool} (h : ∀ k, 8 * k < T.length → B k = C k) : mixL S T B = mixL S T C := by
  refine ext_getD (by rw [mixL_length, mixL_length]) fun j hj => ?_
  rw [mixL_length] at hj
  rw [mixL_get _ _ _ _ hj, mixL_get _ _ _ _ hj, h (j / 8) (by omega)]

/-- Does a cell not last as it is seen? -/
def dirtyB (S T : List UInt8) (k : Nat) : Bool := (List.range 8).any fun j => S.getD (8 * k + j) 0 != T.getD (8 * k + j) 0
def dirtyL (S T : List UInt8) (N : Nat) : List Int := ((List.range N).filter (dirtyB S T)).map Int.ofNat
def clrAll (A : List Bool) : List Bool := List.replicate A.length false
/-- Is a cell in a line that bytes touch? -/
def lineB (at_ n : Nat) (k : Nat) : Bool := decide (0 < n ∧ at_ / 64 ≤ k / 8 ∧ k / 8 ≤ (at_ + n - 1) / 64)
def flushA (S T : List UInt8) (A : List Bool) (B : Nat → Bool) : List Bool := (List.range A.length).map fun k => A.getD k false || (B k && dirtyB S T k)
theorem flushA_length (S T : List UInt8) (A : List Bool) (B : Nat → Bool) : (flushA S T A B).length = A.length := by simp [flushA]
theorem getD_ext {A B : List Bool} (hl : A.length = B.length) (h : ∀ j, j < A.length → A.getD j false = B.getD j false) : A = B := by
  apply List.ext_getElem hl
  intro j h1 h2
  have := h j h1
  simpa [List.getD_eq_getElem?_getD, h1, h2] using this
theorem getD_set (A : List Bool) (k j : Nat) (v : Bool) (hk : k < A.length) : (A.set k v).getD j false = if j = k then v else A.getD j false := by
  rw [List.getD_eq_getElem?_getD]
  by_cases e : j = k
  · subst e; rw [List.getElem?_set_self hk, if_pos rfl]; rfl
  · rw [List.getElem?_set_ne (Ne.symm e), if_neg e, ← List.getD_eq_getElem?_getD]
theorem flushA_get (S T : List UInt8) (A : List Bool) (B : Nat → Bool) (k : Nat) (hk : k < A.length) : (flushA S T A B).getD k false = (A.getD k false || (B k && dirtyB S T k)) := by
  simp [flushA, List.getD_eq_getElem?_getD, hk]
theorem flushA_none (S T : List UInt8) (A : List Bool) {B : Nat → Bool} (h : ∀ k, B k = false) : flushA S T A B = A := by
  refine getD_ext (flushA_length ..) fun j hj => ?_
  rw [flushA_length] at hj
  rw [flushA_get _ _ _ _ _ hj, h]
  simp
theorem flushA_congr (S T : List UInt8) (A : List Bool) {B C : Nat → Bool} (h : ∀ k, k < A.length → dirtyB S T k = true → B k = C k) : flushA S T A B = flushA S T A C := by
  refine getD_ext (by rw [flushA_length, flushA_length]) fun j hj => ?_
  rw [flushA_length] at hj
  rw [flushA_get _ _ _ _ _ hj, flushA_get _ _ _ _ _ hj]
  cases hd : dirtyB S T j with
  | false => simp
  | true => rw [h j hj hd]
theorem flushA_set (S T : List UInt8) (A : List Bool) (B : Nat → Bool) (k : Nat) (hk : k < A.length) (hd : dirtyB S T k = true) : (flushA S T A B).set k true = flushA S T A fun j => B j || decide (j = k) := by
  refine getD_ext (by rw [List.length_set, flushA_length, flushA_length]) fun j hj => ?_
  rw [List.length_set, flushA_length] at hj
  rw [getD_set _ _ _ _ (by rw [flushA_length]; exact hk), flushA_get _ _ _ _ _ hj, flushA_get _ _ _ _ _ hj]
  by_cases e : j = k
  · subst e; simp [hd]
  · simp [e]
theorem flushA_skip (S T : List UInt8) (A : List Bool) (B : Nat → Bool) (k : Nat) (hd : dirtyB S T k = false) : flushA S T A B = flushA S T A fun j => B j || decide (j = k) :=
  flushA_congr S T A fun j _ hj => by
    by_cases e : j = k
    · subst e; rw [hd] at hj; cases hj
    · simp [e]
/-- Does a pick let a cell last? -/
def oddP (p : Int) : Bool := (p % 2 != 0) != decide (p < 0)
/-- The cells that the first i picks let last. -/
def crashB (l pk : List Int) : Nat → Nat → Bool
  | 0 => fun _ => false
  | i + 1 => fun k => crashB l pk i k || (decide (l[i]? = some (k : Int)) && decide (i < pk.length) && oddP (pk.getD i 0))
theorem crashB_skip {l pk : List Int} {i : Nat} (h : i < pk.length → oddP (pk.getD i 0) = false) : crashB l pk (i + 1) = crashB l pk i := by
  funext k
  simp only [crashB]
  by_cases hi : i < pk.length
  · rw [h hi]; simp
  · rw [decide_eq_false hi]; simp
theorem crashB_go {l pk : List Int} {i k0 : Nat} (hl : l[i]? = some (k0 : Int)) (hi : i < pk.length) (ho : oddP (pk.getD i 0) = true) : crashB l pk (i + 1) = fun k => crashB l pk i k || k == k0 := by
  funext k
  simp only [crashB, hl, ho, decide_eq_true hi, Bool.and_true]
  congr 1
  by_cases e : k = k0
  · subst e; simp
  · rw [beq_false_of_ne e]; apply decide_eq_false; intro q; injection q with q; omega
theorem crashB_after {l pk : List Int} {i : Nat} (hi : pk.length ≤ i) : ∀ j, crashB l pk (i + j) = crashB l pk i := by
  intro j
  induction j with
  | zero => rfl
  | succ j ih => rw [← ih]; exact crashB_skip fun q => by (have q2 : i + j < pk.length := q; omega)
/-- Cells from c on are no longer on their way. -/
def clrC (A : List Bool) (c : Nat) : Nat → List Bool
  | 0 => A
  | n + 1 => (clrC A c n).set (c + n) false
theorem clrC_length (A : List Bool) (c n : Nat) : (clrC A c n).length = A.length := by
  induction n with
  | zero => rfl
  | succ n ih => simp [clrC, ih]
def inC (c n : Nat) (k : Nat) : Bool := decide (c ≤ k ∧ k < c + n)
theorem mixL_inC (S T : List UInt8) (c n : Nat) : keepN S (mixL S T (inC c n)) (8 * (c + n)) 8 = mixL S T (inC c (n + 1)) := by
  rw [mixL_keep]
  refine mixL_congr S T fun k _ => ?_
  simp only [inC]
  by_cases h : k = c + n
  · subst h; simp
  · rw [beq_false_of_ne h, Bool.or_false]; congr 1; apply propext; omega
end Go.Proofs.Ytncjfljmnkfghaa

namespace Go.Proofs.Ytncjfljmnkfghaa
open Go.RowKit

/-- Where a memory lies: itself, its two rows, its set. -/
structure MB where
  p : Nat
  gs : Nat
  gt : Nat
  b : Nat
def MB.F (x : MB) (k : Nat) : Prop := k = x.p ∨ k = x.gs ∨ k = x.gt ∨ k = x.b
def MB.apart (x : MB) : Prop := x.p ≠ x.gs ∧ x.p ≠ x.gt ∧ x.p ≠ x.b ∧ x.gs ≠ x.gt ∧ x.gs ≠ x.b ∧ x.gt ≠ x.b
/-- A memory of N cells: what is seen, what lasts, what is on its way. -/
def PM (w : World) (x : MB) (N : Nat) (S T : List UInt8) (A : List Bool) : Prop := ∃ cs ct, (N % 8 = 0 ∧ 8 ≤ N ∧ N ≤ 131072) ∧ A.length = N ∧ x.apart ∧
  CR w x.p 82 3 1 1 [.slice (some ⟨x.gs, 0, none⟩) N cs, .slice (some ⟨x.gt, 0, none⟩) N ct, .map (some x.b)] ∧ CR w x.gs 95 8 N cs (bvs S) ∧ CR w x.gt 95 8 N ct (bvs T) ∧ SetIs w x.b A
section
variable {w w' : World} {x : MB} {N : Nat} {S T : List UInt8} {A : List Bool}
theorem PM.turn {F : Nat → Prop} (h : PM w x N S T A) (t : Turn F w w') (hF : ∀ k, F k → ¬ x.F k) : PM w' x N S T A := by
  obtain ⟨cs, ct, h1, h2, h3, h4, h5, h6, h7⟩ := h
  exact ⟨cs, ct, h1, h2, h3, h4.turn t (fun q => hF _ q (.inl rfl)), h5.turn t (fun q => hF _ q (.inr (.inl rfl))), h6.turn t (fun q => hF _ q (.inr (.inr (.inl rfl)))), h7.turn t (fun q => hF _ q (.inr (.inr (.inr rfl))))⟩
theorem PM.keep (h : PM w x N S T A) (g : Grow w w') : PM w' x N S T A := h.turn (Turn.grow g fun _ => False) (fun _ q => q.elim)
theorem PM.lenS (h : PM w x N S T A) : S.length = 8 * N := by obtain ⟨cs, ct, h1, h2, h3, h4, h5, h6, h7⟩ := h; have := h5.1; rw [bvs_length] at this; omega
theorem PM.lenT (h : PM w x N S T A) : T.length = 8 * N := by obtain ⟨cs, ct, h1, h2, h3, h4, h5, h6, h7⟩ := h; have := h6.1; rw [bvs_length] at this; omega
theorem PM.lenA (h : PM w x N S T A) : A.length = N := by obtain ⟨cs, ct, h1, h2, h3, h4, h5, h6, h7⟩ := h; exact h2
theorem PM.bound (h : PM w x N S T A) : N % 8 = 0 ∧ 8 ≤ N ∧ N ≤ 131072 := by obtain ⟨cs, ct, h1, h2, h3, h4, h5, h6, h7⟩ := h; exact h1
theorem PM.lt (h : PM w x N S T A) : ∀ k, x.F k → k < w.heap.size := by
  obtain ⟨cs, ct, h1, h2, h3, h4, h5, h6, h7⟩ := h
  rintro k (rfl | rfl | rfl | rfl)
  · exact h4.lt
  · exact h5.lt
  · exact h6.lt
  · exact h7.lt
end
theorem bvs_at {bs : List UInt8} {j : Nat} (hj : j < bs.length) : (bvs bs)[j]? = some (.int .u8 ((bs.getD j 0).toNat : Int)) := by
  rw [bvs_get bs j hj, List.getD_eq_getElem?_getD, List.getElem?_eq_getElem hj]
  rfl

theorem pm_size {w : World} {x : MB} {N : Nat} {S T : List UInt8} {A : List Bool} (h : PM w x N S T A) :
    Calls Try.prog 49 #[.pointer (some ⟨x.p, 0, none⟩)] w fun e w' => e = .returned (.int .i64 ((N : Int) * 8)) ∧ w = w' := by
  obtain ⟨cs, ct, ⟨h1, h1', h1''⟩, h2, h3, h4, h5, h6, h7⟩ := h
  have c0 := h4.cell (j := 0) rfl
  have l0 := h4.lt
  have e1 : wrap64 ((N : Int) * 8) = (N : Int) * 8 := IntWalk.wrap64_in _ (by omega)
  clear h4 h5 h6 h7 h1 h2 h3
  go_enter Try.func49, Try.ntmps49
  go_wp2_with fail
  go_ret
  exact ⟨rfl, rfl⟩

theorem pm_within {w : World} {x : MB} {N : Nat} {S T : List UInt8} {A : List Bool} (h : PM w x N S T A) (at_ n : Int) (hn : -9223372036854775808 ≤ n) (hn' : n ≤ 9223372036854775807) :
    Calls Try.prog 58 #[.pointer (some ⟨x.p, 0, none⟩), .int .i64 at_, .int .i64 n] w fun e w' => e = .returned (.bool (inW (8 * N) at_ n)) ∧ w = w' := by
  obtain ⟨hb1, hb2, hb3⟩ := h.bound
  by_cases h1 : 0 ≤ at_
  · by_cases h2 : 0 ≤ n
    · by_cases h3 : at_ ≤ (N : Int) * 8
      · have hs := (pm_size h)
        have e1 : wrap64 ((N : Int) * 8 - at_) = (N : Int) * 8 - at_ := IntWalk.wrap64_in _ (by omega)
        have e2 : inW (8 * N) at_ n = decide (n ≤ (N : Int) * 8 - at_) := by simp only [inW]; congr 1; apply propext; omega
        have d1 : decide (0 ≤ at_) = true := decide_eq_true h1
        have d2 : decide (0 ≤ n) = true := decide_eq_true h2
        have d3 : decide (at_ ≤ (N : Int) * 8) = true := decide_eq_true h3
        rw [e2]
        clear e2 h h1 h2 h3
        go_enter Try.func58, Try.ntmps58
        go_wp2_with (go_at_call 49; refine hs.mono ?_; rintro e w1 ⟨rfl, rfl⟩)
        go_ret
        exact ⟨rfl, rfl⟩
      · have hs := (pm_size h)
        have e2 : inW (8 * N) at_ n = false := by simp only [inW]; apply decide_eq_false; omega
        have d1 : decide (0 ≤ at_) = true := decide_eq_true h1
        have d2 : decide (0 ≤ n) = true := decide_eq_true h2
        have d3 : decide (at_ ≤ (N : Int) * 8) = false := decide_eq_false h3
        rw [e2]
        clear e2 h h1 h2 h3
        go_enter Try.func58, Try.ntmps58
        go_wp2_with (go_at_call 49; refine hs.mono ?_; rintro e w1 ⟨rfl, rfl⟩)
        go_ret
        exact ⟨rfl, rfl⟩
    · have e2 : inW (8 * N) at_ n = false := by simp only [inW]; apply decide_eq_false; omega
      have d1 : decide (0 ≤ at_) = true := decide_eq_true h1
      have d2 : decide (0 ≤ n) = false := decide_eq_false h2
      rw [e2]
      clear e2 h h1 h2
      go_enter Try.func58, Try.ntmps58
      go_wp2_with fail
      go_ret
      exact ⟨rfl, rfl⟩
  · have e2 : inW (8 * N) at_ n = false := by simp only [inW]; apply decide_eq_false; omega
    have d1 : decide (0 ≤ at_) = false := decide_eq_false h1
    rw [e2]
    clear e2 h h1
    go_enter Try.func58, Try.ntmps58
    go_wp2_with fail
    go_ret
    exact ⟨rfl, rfl⟩

theorem tdiv8 {k q : Nat} (h : q = k / 8) : Int.tdiv (k : Int) 8 = (q : Int) := by rw [Int.tdiv_eq_ediv_of_nonneg (by omega)]; omega
theorem tmod8 {k r : Nat} (h : r = k % 8) : Int.tmod (k : Int) 8 = (r : Int) := by rw [Int.tmod_eq_emod_of_nonneg (by omega)]; omega
theorem wrapS {k M : Nat} (h : k < M) (h' : M ≤ 8 * 131072) : wrap64 ((k : Int) + 1) = (k : Int) + 1 := IntWalk.wrap64_in _ (by omega)
theorem meas {M k : Nat} (h : k < M) : M - (intOf (.int .i64 ((k : Int) + 1))).toNat < M - (intOf (.int .i64 (k : Int))).toNat := by simp [intOf]; omega
theorem measW {M k : Nat} (h : k < M) (e : wrap64 ((k : Int) + 1) = (k : Int) + 1) : M - (intOf (.int .i64 (wrap64 ((k : Int) + 1)))).toNat < M - (intOf (.int .i64 (k : Int))).toNat := by rw [e]; exact meas h
theorem wrapN {q N : Nat} (h : q < N) (h' : N ≤ 131072) : wrap64 (q : Int) = (q : Int) := IntWalk.wrap64_in _ (by omega)

/-- What holds at each round of 'bytes'. -/
def BytesInv (w wr : World) (L : List UInt8) (a m : Nat) (out i : Value) : Prop := ∃ k : Nat, i = .int .i64 (k : Int) ∧ a ≤ k ∧ k ≤ a + m ∧ OB wr w.heap.size out ((L.drop a).take (k - a)) ∧ Grow w wr

theorem pm_bytes_no {w : World} {x : MB} {N : Nat} {S T : List UInt8} {A : List Bool} (h : PM w x N S T A) (l : Value) (at_ n : Int) (hn : -9223372036854775808 ≤ n) (hn' : n ≤ 9223372036854775807) (hin : inW (8 * N) at_ n = false) :
    Calls Try.prog 64 #[.pointer (some ⟨x.p, 0, none⟩), l, .int .i64 at_, .int .i64 n] w fun e w' => e = .returned (.tuple #[.slice none 0 0, .int .i64 1]) ∧ w = w' := by
  have hw := pm_within h at_ n hn hn'
  rw [hin] at hw
  clear hin h hn hn'
  go_enter Try.func64, Try.ntmps64
  go_wp2_with fail
  refine hw.mono ?_
  rintro e w1 ⟨rfl, rfl⟩
  go_wp2_with fail
  go_ret2
  exact ⟨rfl, rfl⟩

set_option maxHeartbeats 1000000 in
theorem pm_bytes {w : World} {x : MB} {N : Nat} {S T : List UInt8} {A : List Bool} (h : PM w x N S T A) {g c : Nat} {L : List UInt8} (hr : CR w g 95 8 N c (bvs L)) (a m : Nat) (hA : a + m ≤ 8 * N) :
    Calls Try.prog 64 #[.pointer (some ⟨x.p, 0, none⟩), .slice (some ⟨g, 0, none⟩) N c, .int .i64 (a : Nat), .int .i64 (m : Nat)] w fun e w' =>
      ∃ A' c', e = .returned (.tuple #[.slice A' m c', .int .i64 0]) ∧ Own w' w.heap.size A' m c' ((L.drop a).take m) ∧ Grow w w' := by
  obtain ⟨hb1, hb2, hb3⟩ := h.bound
  have hw := pm_within h (a : Int) (m : Int) (by omega) (by omega)
  rw [inW_iff.2 (by omega)] at hw
  have hL : L.length = 8 * N := by have := hr.1; rw [bvs_length] at this; omega
  have HL := Lib.hid hL
  have hcap : N ≤ c := hr.2.1
  have hlt := hr.lt
  have e1 : wrap64 ((a : Int) + (m : Int)) = (a : Int) + (m : Int) := IntWalk.wrap64_in _ (by omega)
  have HB := Lib.hid hb3
  clear h hL hb3 hb1 hb2
  go_enter Try.func64, Try.ntmps64
  go_wp2_with fail
  refine hw.mono ?_
  rintro e w1 ⟨rfl, rfl⟩
  clear hw
  go_wp2_with fail
  go_loopw [10, 11] (fun out i wr => BytesInv w wr L a m out i) (fun _ i _ => a + m - (intOf i).toNat)
  case atStart => exact ⟨a, rfl, by omega, by omega, by rw [Nat.sub_self, List.take_zero]; exact OB.nil _ _, Grow.refl _⟩
  case round =>
    obtain ⟨k, rfl, hak, hk, ho, G⟩ := hrel
    by_cases hlt2 : k < a + m
    · obtain ⟨q, hq⟩ : ∃ q, q = k / 8 := ⟨_, rfl⟩
      obtain ⟨r, hr8⟩ : ∃ r, r = k % 8 := ⟨_, rfl⟩
      have hj : k < L.length := by rw [HL.out]; omega
      have c0 := G.cell (hr.cell (bvs_at hj))
      have hqN : q < N := by omega
      have hr8' : r < 8 := by omega
      have z1 : decide ((k : Int) < (a : Int) + (m : Int)) = true := decide_eq_true (by omega)
      obtain ⟨u, hu⟩ : ∃ u, u = L.getD k 0 := ⟨_, rfl⟩
      rw [← hu, show k = q * 8 + r by omega] at c0
      have HO := Lib.hid (show (L.drop a).take (k + 1 - a) = (L.drop a).take (k - a) ++ [u] by
        rw [show k + 1 - a = (k - a) + 1 by omega, List.take_succ_eq_append_getElem (by rw [List.length_drop]; omega), hu]
        congr 2
        rw [List.getElem_drop, List.getD_eq_getElem?_getD, List.getElem?_eq_getElem hj]
        simp only [Option.getD_some, show a + (k - a) = k by omega])
      have hlen : ((L.drop a).take (k - a)).length ≤ 2000000 := by rw [List.length_take, List.length_drop, HL.out]; have := HB.out; omega
      have HLEN := Lib.hid hlen
      have hz := Below.size G
      clear hu hj hlen
      have hlen' : ((L.drop a).take (k - a)).length + 1 ≤ 140737488355328 := by have := HLEN.out; omega
      have HL2 := Lib.hid hlen'
      clear hlen'
      have e2 := tdiv8 hq
      have e3 := tmod8 hr8
      have e4 := wrapN hqN HB.out
      have e5 := wrapS (Nat.lt_of_lt_of_le hlt2 hA) (Nat.mul_le_mul_left 8 HB.out)
      clear hq hr8
      go_wp2_with (at_builtin; refine wpList_app1 rfl (.tmp 25) (.tmp 34) rfl w.heap.size _ ((L.drop a).take (k - a)) rfl _ rfl ho u rfl HL2.out hz ?_; intro v1 w2 o2 g2)
      have X : BytesInv w w2 L a m v1 (.int .i64 ((k : Int) + 1)) := ⟨k + 1, by simp, by clear e2 e3 e4 e5 e1; omega, by clear e2 e3 e4 e5 e1; omega, by rw [HO.out]; exact o2, G.low g2⟩
      go_roundw
      case rel => (try rw [e5]); first | exact X | ((repeat apply Exists.intro); exact X) | ((repeat apply Exists.intro); refine ⟨X, ?_⟩; rfl)
      case measure => first | exact meas hlt2 | exact measW hlt2 e5
    · have z1 : decide ((k : Int) < (a : Int) + (m : Int)) = false := decide_eq_false (by omega)
      go_wp2_with fail
      obtain rfl : k = a + m := by omega
      obtain ⟨A1, c1, rfl, ho1⟩ := Own.ofOB ho m (by rw [List.length_take, List.length_drop, HL.out]; omega) (by have := HB.out; omega)
      rw [Nat.add_sub_cancel_left] at ho1
      go_wp2_with fail
      go_ret2
      exact ⟨_, _, rfl, ho1, G⟩

theorem pm_load {w : World} {x : MB} {N : Nat} {S T : List UInt8} {A : List Bool} (h : PM w x N S T A) (a m : Nat) (hA : a + m ≤ 8 * N) :
    Calls Try.prog 56 #[.pointer (some ⟨x.p, 0, none⟩), .int .i64 (a : Nat), .int .i64 (m : Nat)] w fun e w' =>
      ∃ A' c', e = .returned (.tuple #[.slice A' m c', .int .i64 0]) ∧ Own w' w.heap.size A' m c' ((S.drop a).take m) ∧ Grow w w' := by
  obtain ⟨cs, ct, h1, h2, h3, h4, h5, h6, h7⟩ := id h
  have c0 := h4.cell (j := 0) rfl
  have l0 := h4.lt
  have HB := Lib.hid (pm_bytes h h5 a m hA)
  clear h h1 h2 h3 h4 h5 h6 h7
  go_enter Try.func56, Try.ntmps56
  go_wp2_with fail
  refine HB.out.mono ?_
  rintro e w1 ⟨A', c', rfl, ho, g⟩
  go_wp2_with fail
  go_ret2
  exact ⟨_, _, rfl, ho, g⟩
theorem pm_load_no {w : World} {x : MB} {N : Nat} {S T : List UInt8} {A : List Bool} (h : PM w x N S T A) (at_ n : Int) (hn : -9223372036854775808 ≤ n) (hn' : n ≤ 9223372036854775807) (hin : inW (8 * N) at_ n = false) :
    Calls Try.prog 56 #[.pointer (some ⟨x.p, 0, none⟩), .int .i64 at_, .int .i64 n] w fun e w' => e = .returned (.tuple #[.slice none 0 0, .int .i64 1]) ∧ w = w' := by
  obtain ⟨cs, ct, h1, h2, h3, h4, h5, h6, h7⟩ := id h
  have c0 := h4.cell (j := 0) rfl
  have l0 := h4.lt
  have HB := fun l => Lib.hid (pm_bytes_no h l at_ n hn hn' hin)
  clear h h1 h2 h3 h4 h5 h6 h7 hn hn' hin
  go_enter Try.func56, Try.ntmps56
  go_wp2_with fail
  refine (HB _).out.mono ?_
  rintro e w1 ⟨rfl, rfl⟩
  go_wp2_with fail
  go_ret2
  exact ⟨rfl, rfl⟩
theorem pm_lasts {w : World} {x : MB} {N : Nat} {S T : List UInt8} {A : List Bool} (h : PM w x N S T A) (a m : Nat) (hA : a + m ≤ 8 * N) :
    Calls Try.prog 32 #[.pointer (some ⟨x.p, 0, none⟩), .int .i64 (a : Nat), .int .i64 (m : Nat)] w fun e w' =>
      ∃ A' c', e = .returned (.tuple #[.slice A' m c', .int .i64 0]) ∧ Own w' w.heap.size A' m c' ((T.drop a).take m) ∧ Grow w w' := by
  obtain ⟨cs, ct, h1, h2, h3, h4, h5, h6, h7⟩ := id h
  have c0 := h4.cell (j := 1) rfl
  have l0 := h4.lt
  have HB := Lib.hid (pm_bytes h h6 a m hA)
  clear h h1 h2 h3 h4 h5 h6 h7
  go_enter Try.func32, Try.ntmps32
  go_wp2_with fail
  refine HB.out.mono ?_
  rintro e w1 ⟨A', c', rfl, ho, g⟩
  go_wp2_with fail
  go_ret2
  exact ⟨_, _, rfl, ho, g⟩
end Go.Proofs.Ytncjfljmnkfghaa

namespace Go.Proofs.Ytncjfljmnkfghaa
open Go.RowKit
section
variable {w w' : World} {x : MB} {N : Nat} {S T : List UInt8} {A : List Bool}
theorem PM.view (h : PM w x N S T A) : ∃ cs ct, N ≤ cs ∧ N ≤ ct ∧ w.cell? ⟨x.p, 0, none⟩ = some (.slice (some ⟨x.gs, 0, none⟩) N cs) ∧ w.cell? ⟨x.p, 1, none⟩ = some (.slice (some ⟨x.gt, 0, none⟩) N ct) ∧ w.cell? ⟨x.p, 2, none⟩ = some (.map (some x.b)) ∧ x.p < w.heap.size := by
  obtain ⟨cs, ct, h1, h2, h3, h4, h5, h6, h7⟩ := h
  exact ⟨cs, ct, h5.2.1, h6.2.1, h4.cell rfl, h4.cell rfl, h4.cell rfl, h4.lt⟩
theorem PM.isSet (h : PM w x N S T A) : SetIs w x.b A := by obtain ⟨cs, ct, h1, h2, h3, h4, h5, h6, h7⟩ := h; exact h7
theorem PM.apart (h : PM w x N S T A) : x.apart := by obtain ⟨cs, ct, h1, h2, h3, h4, h5, h6, h7⟩ := h; exact h3
theorem PM.seenAt (h : PM w x N S T A) {j : Nat} (hj : j < 8 * N) : w.cell? ⟨x.gs, j, none⟩ = some (.int .u8 ((S.getD j 0).toNat : Int)) ∧ w.frozen? ⟨x.gs, j, none⟩ = false := by
  have hl := h.lenS
  obtain ⟨cs, ct, h1, h2, h3, h4, h5, h6, h7⟩ := h
  exact ⟨h5.cell (bvs_at (by omega)), h5.frozen j⟩
theorem PM.lastAt (h : PM w x N S T A) {j : Nat} (hj : j < 8 * N) : w.cell? ⟨x.gt, j, none⟩ = some (.int .u8 ((T.getD j 0).toNat : Int)) ∧ w.frozen? ⟨x.gt, j, none⟩ = false := by
  have hl := h.lenT
  obtain ⟨cs, ct, h1, h2, h3, h4, h5, h6, h7⟩ := h
  exact ⟨h6.cell (bvs_at (by omega)), h6.frozen j⟩
theorem PM.seenSet (h : PM w x N S T A) (j : Nat) (u : UInt8) : PM (w.setCell ⟨x.gs, j, none⟩ (.int .u8 (u.toNat : Int))) x N (S.set j u) T A ∧ Turn x.F w (w.setCell ⟨x.gs, j, none⟩ (.int .u8 (u.toNat : Int))) := by
  obtain ⟨cs, ct, h1, h2, h3, h4, h5, h6, h7⟩ := h
  have hk : ∀ k, k ≠ x.gs → (w.setCell ⟨x.gs, j, none⟩ (.int .u8 (u.toNat : Int))).heap[k]? = w.heap[k]? := fun k hk => Below.heap_setCell _ _ _ _ hk
  refine ⟨⟨cs, ct, h1, h2, h3, h4.same (hk _ h3.1), ?_, h6.same (hk _ (Ne.symm h3.2.2.2.1)), h7.kept (hk _ (Ne.symm h3.2.2.2.2.1))⟩, Turn.setCell w (.inr (.inl rfl)) _⟩
  have := h5.set j (bv u)
  rwa [bvs_set] at this
theorem PM.lastSet (h : PM w x N S T A) (j : Nat) (u : UInt8) : PM (w.setCell ⟨x.gt, j, none⟩ (.int .u8 (u.toNat : Int))) x N S (T.set j u) A ∧ Turn x.F w (w.setCell ⟨x.gt, j, none⟩ (.int .u8 (u.toNat : Int))) := by
  obtain ⟨cs, ct, h1, h2, h3, h4, h5, h6, h7⟩ := h
  have hk : ∀ k, k ≠ x.gt → (w.setCell ⟨x.gt, j, none⟩ (.int .u8 (u.toNat : Int))).heap[k]? = w.heap[k]? := fun k hk => Below.heap_setCell _ _ _ _ hk
  refine ⟨⟨cs, ct, h1, h2, h3, h4.same (hk _ h3.2.1), h5.same (hk _ h3.2.2.2.1), ?_, h7.kept (hk _ (Ne.symm h3.2.2.2.2.2))⟩, Turn.setCell w (.inr (.inr (.inl rfl))) _⟩
  have := h6.set j (bv u)
  rwa [bvs_set] at this
theorem PM.setTo (h : PM w x N S T A) {A' : List Bool} (hs : SetIs w' x.b A') (hl : A'.length = A.length) (hg : w.grownBy w' (some x.b)) : PM w' x N S T A' ∧ Turn x.F w w' := by
  have ht : Turn x.F w w' := Turn.grown hg (fun j hj => by injection hj with hj; subst hj; exact .inr (.inr (.inr rfl)))
  have ht2 : Turn (fun k => k = x.b) w w' := Turn.grown hg (fun j hj => by injection hj with hj; subst hj; rfl)
  obtain ⟨cs, ct, h1, h2, h3, h4, h5, h6, h7⟩ := h
  exact ⟨⟨cs, ct, h1, by omega, h3, h4.turn ht2 h3.2.2.1, h5.turn ht2 h3.2.2.2.2.1, h6.turn ht2 h3.2.2.2.2.2, hs⟩, ht⟩
end

def StoreInv (w wr : World) (x : MB) (N : Nat) (S T : List UInt8) (A : List Bool) (a m : Nat) (bs : List UInt8) (t : Value) : Prop := ∃ j : Nat, t = .int .i64 (j : Int) ∧ j ≤ m ∧ PM wr x N (putL S a (bs.take j)) T (clrL A a j) ∧ Turn x.F w wr

theorem wrapA {a j M : Nat} (h : a + j < M) (h' : M ≤ 8 * 131072) : wrap64 ((a : Int) + (j : Int)) = ((a + j : Nat) : Int) := by rw [IntWalk.wrap64_in _ (by omega)]; simp

set_option maxHeartbeats 1000000 in
theorem pm_store {w : World} {x : MB} {N : Nat} {S T : List UInt8} {A : List Bool} (h : PM w x N S T A) {B : Option Addr} {m c : Nat} {bs : List UInt8} (hs : Sl w B m bs) (hB : 0 < m → ∀ p, B = some p → ¬ x.F p.block) (a : Nat) (hA : a + m ≤ 8 * N) :
    Calls Try.prog 29 #[.pointer (some ⟨x.p, 0, none⟩), .int .i64 (a : Nat), .slice B m c] w fun e w' => e = .returned (.int .i64 0) ∧ PM w' x N (putL S a bs) T (clrL A a m) ∧ Turn x.F w w' := by
  obtain ⟨hb1, hb2, hb3⟩ := h.bound
  have hw := pm_within h (a : Int) (m : Int) (by omega) (by omega)
  rw [inW_iff.2 ⟨by omega, by omega, by omega⟩] at hw
  have HW := Lib.hid hw
  have HB := Lib.hid hb3
  have HLA := Lib.hid h.lenA
  have hlen := hs.1
  have HLEN := Lib.hid hlen
  clear hw hb1 hb2 hb3 hlen
  go_enter Try.func29, Try.ntmps29
  go_wp2_with fail
  refine HW.out.mono ?_
  rintro e w1 ⟨rfl, rfl⟩
  clear HW
  go_wp2_with fail
  go_loopw [18] (fun t wr => StoreInv w wr x N S T A a m bs t) (fun t _ => m - (intOf t).toNat)
  case atStart => exact ⟨0, rfl, by omega, h, Turn.refl _ _⟩
  case round =>
    obtain ⟨j, rfl, hj, hP, ht⟩ := hrel
    by_cases hlt : j < m
    · obtain ⟨cs, ct, hcs, hct, c0, -, c2, l0⟩ := hP.view
      obtain ⟨b0, o0, rfl, hb0, cb⟩ := hs.cell hlt
      have hnb := hB (Nat.lt_of_le_of_lt (Nat.zero_le j) hlt) _ rfl
      replace cb := (ht.cell (p := ⟨b0, o0 + j, none⟩) hb0 hnb).trans cb
      obtain ⟨u, hu⟩ : ∃ u, u = bs[j]'(by rw [HLEN.out]; exact hlt) := ⟨_, rfl⟩
      rw [← hu] at cb
      obtain ⟨i, hi⟩ : ∃ i, i = a + j := ⟨_, rfl⟩
      obtain ⟨q, hq⟩ : ∃ q, q = i / 8 := ⟨_, rfl⟩
      obtain ⟨r, hr8⟩ : ∃ r, r = i % 8 := ⟨_, rfl⟩
      have haj : i < 8 * N := by omega
      have hqN : q < N := by omega
      have hr8' : r < 8 := by omega
      have hqr : i = q * 8 + r := by omega
      obtain ⟨cS, fS⟩ := hP.seenAt haj
      obtain ⟨hP1, ht1⟩ := hP.seenSet i u
      have HP := Lib.hid hP1
      have HT := Lib.hid (ht.and ht1)
      rw [hqr] at hP1
      obtain ⟨cs1, ct1, -, -, -, -, d2, -⟩ := hP1.view
      have hSet := hP1.isSet
      have HPUT := Lib.hid (putL_take (S := S) (i := a) (bs := bs) (k := j) (by rw [HLEN.out]; exact hlt))
      have HU := Lib.hid hu
      have hlc : (clrL A a j).length = N := by rw [clrL_length, HLA.out]
      have HCL := Lib.hid (show clrL A a (j + 1) = (clrL A a j).set q false by rw [clrL, hq, hi])
      have HQA := Lib.hid (show q < (clrL A a j).length by rw [hlc]; exact hqN)
      have HQM := Lib.hid (show q ≤ 1000000 by have := HB.out; omega)
      rw [hqr] at cS fS
      have HQR := Lib.hid hqr
      have HI := Lib.hid hi
      have e5 := wrapS (M := 8 * N) (show j < 8 * N by omega) (Nat.mul_le_mul_left 8 HB.out)
      have e1 := wrapA (hi ▸ haj) (Nat.mul_le_mul_left 8 HB.out)
      rw [← hi] at e1
      have e2 := tdiv8 hq
      have e3 := tmod8 hr8
      have e4 := wrapN hqN HB.out
      clear hP hP1 ht ht1 hu hq hr8 hqr hlc haj hi
      go_wp2_with (at_delete; refine wpList_setDel rfl (.tmp 42) (.tmp 43) rfl rfl hSet q HQA.out HQM.out (congrArg (Value.int .i64) e4) ?_; intro w2 hS2 hg2 hz2)
      have X : StoreInv w w2 x N S T A a m bs (.int .i64 ((j : Int) + 1)) := by
        have hP1 := HP.out
        rw [HI.out] at hP1
        have hh := hP1.setTo (w' := w2) (A' := clrL A a (j + 1)) (by rw [HCL.out]; exact hS2) (by rw [clrL_length, clrL_length]) (by rw [← HI.out, HQR.out]; exact hg2)
        refine ⟨j + 1, by simp, hlt, ?_, ?_⟩
        · rw [HPUT.out, ← HU.out]; exact hh.1
        · have := HT.out; rw [HI.out] at this; exact this.and hh.2
      go_roundw
      case rel => (try rw [e5]); first | exact X | ((repeat apply Exists.intro); exact X) | ((repeat apply Exists.intro); refine ⟨X, ?_⟩; rfl)
      case measure => first | exact meas hlt | exact measW hlt e5
    · obtain rfl : j = m := by omega
      have hbs : bs.take j = bs := List.take_of_length_le (by rw [HLEN.out]; omega)
      rw [hbs] at hP
      clear hs hB
      go_wp2_with fail
      go_ret
      exact ⟨rfl, hP, ht⟩
end Go.Proofs.Ytncjfljmnkfghaa
