/- A memory as it lies in the heap: two rows of cells, a set of numbers. No statement of the seat is proved here. -/
import Derived.Test.YtnhgfkahmflpgaaStd0
import Derived.Maps.OwnSet
import Derived.Maps.Range
namespace Go.Proofs.Ytnhgfkahmflpgaa
open Go.RowKit Go.Maps

/-- Of what was there only blocks of F have turned. -/
structure Turn (F : Nat → Prop) (w w' : World) : Prop where
  os : w'.os = w.os
  tape : w'.tape = w.tape
  output : w'.output = w.output
  size : w.heap.size ≤ w'.heap.size
  block : ∀ k, k < w.heap.size → ¬ F k → w'.heap[k]? = w.heap[k]?
section
variable {F G : Nat → Prop} {a b c : World}
theorem Turn.refl (F : Nat → Prop) (w : World) : Turn F w w := ⟨rfl, rfl, rfl, Nat.le_refl _, fun _ _ _ => rfl⟩
theorem Turn.trans (h : Turn F a b) (k : Turn G b c) (hg : ∀ i, G i → F i ∨ a.heap.size ≤ i) : Turn F a c :=
  ⟨k.os.trans h.os, k.tape.trans h.tape, k.output.trans h.output, Nat.le_trans h.size k.size, fun i hi hn =>
    (k.block i (Nat.lt_of_lt_of_le hi h.size) (fun q => (hg i q).elim hn (fun q => by omega))).trans (h.block i hi hn)⟩
theorem Turn.and (h : Turn F a b) (k : Turn F b c) : Turn F a c := h.trans k fun _ q => .inl q
theorem Turn.mono (h : Turn F a b) (hg : ∀ i, F i → G i) : Turn G a b := ⟨h.os, h.tape, h.output, h.size, fun i hi hn => h.block i hi fun q => hn (hg i q)⟩
theorem Turn.grow (h : Grow a b) (F : Nat → Prop) : Turn F a b := ⟨h.os, h.tape, h.output, h.size, fun i hi _ => h.block i hi⟩
theorem Turn.andGrow (h : Turn F a b) (k : Grow b c) : Turn F a c := h.and (Turn.grow k F)
theorem Turn.grown {row : Option Nat} (h : a.grownBy b row) (hr : ∀ j, row = some j → F j) : Turn F a b := ⟨h.os, h.tape, h.output, h.size, fun i hi hn => h.block i hi fun q => hn (hr i q.symm)⟩
theorem Turn.low {B : Nat} (h : Turn F a b) (hF : ∀ i, F i → B ≤ i) (hB : B ≤ a.heap.size) : Below B a b := ⟨h.os, h.tape, h.output, h.size, fun i hi => h.block i (by omega) fun q => by have := hF i q; omega⟩
theorem Turn.setCell (w : World) {p : Addr} (hp : F p.block) (v : Value) : Turn F w (w.setCell p v) := ⟨rfl, rfl, rfl, by simp, fun i _ hn => Below.heap_setCell _ _ _ _ fun e => hn (e ▸ hp)⟩
theorem Turn.cell (h : Turn F a b) {p : Addr} (hp : p.block < a.heap.size) (hn : ¬ F p.block) : b.cell? p = a.cell? p := World.cell?_of_block (h.block _ hp hn)
theorem Turn.frozen (h : Turn F a b) {p : Addr} (hp : p.block < a.heap.size) (hn : ¬ F p.block) : b.frozen? p = a.frozen? p := World.frozen?_of_block (h.block _ hp hn)
end

/-- Block g is a row of n elements of 'size' cells, room for c: the cells xs. -/
def CR (w : World) (g : Nat) (e : TypeId) (size n c : Nat) (xs : List Value) : Prop := xs.length = n * size ∧ n ≤ c ∧ c ≤ maxLen ∧ ∃ cur, w.heap[g]? = some (.cells cur e) ∧ cur.size = c * size ∧ cur.toList.take (n * size) = xs
section
variable {w w' : World} {g size n c base : Nat} {e : TypeId} {xs : List Value} {F : Nat → Prop}
theorem CR.row (h : CR w g e size n c xs) (hb : base ≤ g) : w.ownsRow base e size (.slice (some ⟨g, 0, none⟩) n c) n xs := by
  obtain ⟨h1, h2, h3, cur, h4, h5, h6⟩ := h
  exact ⟨h1, .inr ⟨g, c, cur, rfl, hb, h4, h2, h3, h5, h6⟩⟩
theorem CR.of_row (h : w.ownsRow base e size (.slice (some ⟨g, 0, none⟩) n c) n xs) : CR w g e size n c xs := by
  rcases h.2 with ⟨h0, _⟩ | ⟨g', c', cur, hv, _, h4, h2, h3, h5, h6⟩
  · cases h0
  · injection hv with e1 e2 e3
    injection e1 with e1
    injection e1 with e1
    subst e1 e3
    exact ⟨h.1, h2, h3, cur, h4, h5, h6⟩
theorem CR.lt (h : CR w g e size n c xs) : g < w.heap.size := by
  obtain ⟨_, _, _, cur, h4, _⟩ := h
  exact (Array.getElem?_eq_some_iff.1 h4).1
theorem CR.same (h : CR w g e size n c xs) (hk : w'.heap[g]? = w.heap[g]?) : CR w' g e size n c xs := by
  obtain ⟨h1, h2, h3, cur, h4, h5⟩ := h
  exact ⟨h1, h2, h3, cur, hk.trans h4, h5⟩
theorem CR.turn (h : CR w g e size n c xs) (t : Turn F w w') (hg : ¬ F g) : CR w' g e size n c xs := h.same (t.block g h.lt hg)
theorem CR.cell (h : CR w g e size n c xs) {j : Nat} {u : Value} (hj : xs[j]? = some u) : w.cell? ⟨g, j, none⟩ = some u := by
  have := World.ownsRow.cells (h.row (Nat.zero_le _)) (g := g) rfl j u hj
  simpa [Addr.add_lit] using this
theorem CR.frozen (h : CR w g e size n c xs) (j : Nat) : w.frozen? ⟨g, j, none⟩ = false := World.ownsRow.frozenAt (h.row (Nat.zero_le _)) j
theorem CR.set (h : CR w g e size n c xs) (j : Nat) (v : Value) : CR (w.setCell ⟨g, j, none⟩ v) g e size n c (xs.set j v) := CR.of_row (World.ownsRow.stored (h.row (Nat.zero_le _)) j v).1
theorem CR.set_ne (h : CR w g e size n c xs) {p : Addr} (hp : p.block ≠ g) (v : Value) : CR (w.setCell p v) g e size n c xs := h.same (Below.heap_setCell _ _ _ _ (Ne.symm hp))
theorem CR.alloc (h : CR w g e size n c xs) (o : Obj) : CR (w.alloc o) g e size n c xs := h.turn (Turn.grow ((Grow.refl w).alloc o) fun _ => False) (fun q => q)
end

/-! ### the set -/
theorem pigeon : ∀ (N : Nat) (l : List Nat), l.Nodup → (∀ x ∈ l, x < N) → l.length ≤ N := by
  intro N
  induction N with
  | zero => intro l _ h; cases l with | nil => simp | cons x l => exact absurd (h x (by simp)) (by omega)
  | succ N ih =>
    intro l hn h
    by_cases hm : N ∈ l
    · have h1 := ih (l.erase N) (hn.erase N) (fun x hx => by
        have h2 := hn.mem_erase_iff.1 hx
        have := h x h2.2
        omega)
      rw [List.length_erase_of_mem hm] at h1
      omega
    · have := ih l hn (fun x hx => by
        have h1 := h x hx
        have h2 : x ≠ N := fun e => hm (e ▸ hx)
        omega)
      omega

def keyL (k : Nat) : Lit := .int .i64 (k : Int)
theorem int_keyed' : Keyed Try.prog 3 := int_keyed Try.underlying3
/-- Block b is a map that has just the numbers at which A is true, each below A's length. -/
def SetIs (w : World) (b : Nat) (A : List Bool) : Prop := ∃ D : DataW Unit, w.ownsMap Try.prog 3 (plainElem Try.prog 4) b A.length D ∧ ∀ kl, Maps.has D kl = true ↔ ∃ k, kl = keyL k ∧ A[k]? = some true

theorem owns_shrink {w : World} {b n N : Nat} {D : DataW Unit} (h : w.ownsMap Try.prog 3 (plainElem Try.prog 4) b n D) (hk : ∀ kl, Maps.has D kl = true → ∃ k, kl = keyL k ∧ k < N) : w.ownsMap Try.prog 3 (plainElem Try.prog 4) b N D := by
  obtain ⟨es, hD, hp, hl⟩ := h.entries int_keyed'
  have hsz : es.length ≤ N := by
    have hnat : ∀ p ∈ es, ∃ k : Nat, p.1 = keyL k ∧ k < N := fun p hm => hk p.1 (by rw [hD]; exact List.any_eq_true.2 ⟨p, hm, WideAt.sameKey_self (hl p hm)⟩)
    let f : Lit × DataW Unit → Nat := fun p => match p.1 with | .int _ z => z.toNat | _ => 0
    have hf : ∀ p ∈ es, p.1 = keyL (f p) ∧ f p < N := by
      intro p hm
      obtain ⟨k, h1, h2⟩ := hnat p hm
      have : f p = k := by simp [f, h1, keyL]
      rw [this]; exact ⟨h1, h2⟩
    have := pigeon N (es.map f) (by
      refine List.pairwise_map.2 (List.Pairwise.imp_of_mem ?_ hp)
      intro p q hpm hqm hne he
      exact hne (by rw [(hf p hpm).1, (hf q hqm).1, he])) (fun x hx => by
      obtain ⟨p, hm, rfl⟩ := List.mem_map.1 hx
      exact (hf p hm).2)
    simpa using this
  obtain ⟨es', clock, h1, h2, h3, h4⟩ := h
  refine ⟨es', clock, h1, h2, ?_, h4⟩
  rw [h4] at hD
  injection hD with hD
  rw [← hD, length_sorted] at hsz
  simpa using hsz

theorem SetIs.made (w : World) (N : Nat) : SetIs (w.alloc (.map #[] 0)) w.heap.size (List.replicate N false) := by
  refine ⟨_, (World.ownsMap_made w _ _ _).mono (Nat.zero_le _), fun kl => ?_⟩
  simp [Maps.has, List.getElem?_replicate]
theorem SetIs.kept {w w' : World} {b : Nat} {A : List Bool} (h : SetIs w b A) (hk : w'.heap[b]? = w.heap[b]?) : SetIs w' b A := by
  obtain ⟨D, ⟨es, clock, h1, h2⟩, h3⟩ := h
  exact ⟨D, ⟨es, clock, hk.trans h1, h2⟩, h3⟩
theorem SetIs.lt {w : World} {b : Nat} {A : List Bool} (h : SetIs w b A) : b < w.heap.size := by obtain ⟨D, h, _⟩ := h; exact h.lt
theorem SetIs.turn {w w' : World} {F : Nat → Prop} {b : Nat} {A : List Bool} (h : SetIs w b A) (t : Turn F w w') (hg : ¬ F b) : SetIs w' b A := h.kept (t.block b h.lt hg)
theorem set_get (A : List Bool) (k j : Nat) (v : Bool) (hk : k < A.length) : (A.set k v)[j]? = if j = k then some v else A[j]? := by
  by_cases e : j = k
  · subst e; simp [hk]
  · rw [List.getElem?_set_ne (Ne.symm e), if_neg e]
theorem keyL_inj {a b : Nat} (h : keyL a = keyL b) : a = b := by
  unfold keyL at h
  injection h with _ h
  omega
theorem keyL_is (k : Nat) : WideAt.IsKeyLit (keyL k) := trivial

section
variable {w : World} {ops : Array Oper} {rest : List Oper} {o : Oper} {a : Act} {Q : Exit → Act → World → Prop} {b : Nat} {A : List Bool}
/-- 'm[k] = true'. -/
theorem wpList_setPut (hg : o.guard = none) (m x v : Operand) (hop : o.op = Op.mapUpdate 51 m x v) (hm : a.eval m = .map (some b)) (h : SetIs w b A) (k : Nat) (hk : k < A.length) (hA : A.length ≤ 1000000) (hx : a.eval x = .int .i64 (k : Int)) (hv : a.eval v = .bool true)
    (hK : ∀ w', SetIs w' b (A.set k true) → w.grownBy w' (some b) → wpList Try.prog ops Q rest (a.put o.dst undef) w') : wpList Try.prog ops Q (o :: rest) a w := by
  obtain ⟨D, h1, h2⟩ := h
  refine wpList_mapUpdate_in w hg m x v 51 hop 3 4 int_keyed' Try.underlying51 _ b A.length D hm h1 (by unfold maxLen; omega) _ _ (keyL k) hx hv (keyOf_int_mk Try.underlying3 (WalkArith.wf_i64 (by omega))) _ [] (plainElem_bool Try.underlying4 true) ?_
  intro w' h3 h4
  have hh : ∀ kl, Maps.has (D.put (keyL k) (.lit (.bool true))) kl = true ↔ ∃ j, kl = keyL j ∧ (A.set k true)[j]? = some true := by
    intro kl
    by_cases e : kl = keyL k
    · subst e
      rw [Maps.has_put_same h1.isMap (keyL_is k)]
      exact ⟨fun _ => ⟨k, rfl, by rw [set_get A k k true hk, if_pos rfl]⟩, fun _ => rfl⟩
    · rw [Maps.has_put_other e, h2]
      constructor
      · rintro ⟨j, rfl, hj⟩
        refine ⟨j, rfl, ?_⟩
        rw [set_get A k j true hk, if_neg (fun q => e (by rw [q]))]
        exact hj
      · rintro ⟨j, rfl, hj⟩
        refine ⟨j, rfl, ?_⟩
        rw [set_get A k j true hk, if_neg (fun q => e (by rw [q]))] at hj
        exact hj
  refine hK w' ⟨_, owns_shrink h3 (fun kl hkl => ?_), hh⟩ h4.grown
  obtain ⟨j, h5, h6⟩ := (hh kl).1 hkl
  exact ⟨j, h5, (List.getElem?_eq_some_iff.1 h6).1⟩
theorem has_del {D : DataW Unit} (h2 : ∀ kl, Maps.has D kl = true ↔ ∃ k, kl = keyL k ∧ A[k]? = some true) {k : Nat} (hk : k < A.length) : ∀ kl, Maps.has (D.del (keyL k)) kl = true ↔ ∃ j, kl = keyL j ∧ (A.set k false)[j]? = some true := by
  intro kl
  by_cases e : kl = keyL k
  · subst e
    rw [Maps.has_del_same]
    constructor
    · intro h; cases h
    · rintro ⟨j, h3, h4⟩
      have := keyL_inj h3
      subst this
      rw [set_get A k k false hk, if_pos rfl] at h4
      cases h4
  · rw [Maps.has_del_other e, h2]
    constructor
    · rintro ⟨j, rfl, hj⟩
      refine ⟨j, rfl, ?_⟩
      rw [set_get A k j false hk, if_neg (fun q => e (by rw [q]))]
      exact hj
    · rintro ⟨j, rfl, hj⟩
      refine ⟨j, rfl, ?_⟩
      rw [set_get A k j false hk, if_neg (fun q => e (by rw [q]))] at hj
      exact hj
/-- 'delete(m, k)'. -/
theorem wpList_setDel (hg : o.guard = none) (m x : Operand) (hop : o.op = Op.call { callee := Callee.builtin Builtin.delete, args := #[m, x], argTypes := #[51, 3] }) (hm : a.eval m = .map (some b)) (h : SetIs w b A) (k : Nat) (hk : k < A.length) (hk2 : k ≤ 1000000) (hx : a.eval x = .int .i64 (k : Int))
    (hK : ∀ w', SetIs w' b (A.set k false) → w.grownBy w' (some b) → w'.heap.size = w.heap.size → wpList Try.prog ops Q rest (a.put o.dst (.tuple #[])) w') : wpList Try.prog ops Q (o :: rest) a w := by
  obtain ⟨D, h1, h2⟩ := h
  refine wpList_delete_own w hg m x 51 3 hop 4 int_keyed' Try.underlying51 _ b A.length D hm h1 _ (keyL k) hx (keyOf_int_mk Try.underlying3 (WalkArith.wf_i64 (by omega))) ?_
  intro w' h3 h4
  refine hK w' ⟨_, by rw [List.length_set]; exact h3, has_del h2 hk⟩ h4.grown ?_
  obtain ⟨es, clock, es', clock', _, rfl⟩ := h4
  simp [Go.ChangeMaps.setBlock]
end
end Go.Proofs.Ytnhgfkahmflpgaa
