/- Rows of patches of the call's own, and rows of such rows, that are written over. No statement of the seat is proved here. -/
import Derived.Test.YtncjfljmnkfghaaZ14
import Derived.Test.YtncjfljmnkfghaaZ16
import Derived.Deep.Onto
namespace Go.Proofs.Ytncjfljmnkfghaa
open Go.RowKit

/-- A row of patches of the call's own, whatever stands in it. -/
def AnyP (w : World) (base : Nat) (A : Option Addr) (n c : Nat) : Prop := ∃ xs, w.ownsRow base 50 2 (.slice A n c) n xs
/-- The block of an address. -/
def BlkOf (A : Option Addr) (k : Nat) : Prop := ∃ p, A = some p ∧ p.block = k
theorem own_kept {w w' : World} {base size n c : Nat} {e : TypeId} {A : Option Addr} {xs : List Value} (h : w.ownsRow base e size (.slice A n c) n xs) (hk : ∀ k, BlkOf A k → w'.heap[k]? = w.heap[k]?) : w'.ownsRow base e size (.slice A n c) n xs := by
  obtain ⟨h1, h2⟩ := h
  refine ⟨h1, ?_⟩
  rcases h2 with h2 | ⟨g, cap, cur, hv, hb, hg, h3⟩
  · exact .inl h2
  · refine .inr ⟨g, cap, cur, hv, hb, (hk g ?_).trans hg, h3⟩
    injection hv with e1
    subst e1
    exact ⟨_, rfl, rfl⟩
section
variable {w w' : World} {base n c : Nat} {A : Option Addr} {F : Nat → Prop}
theorem AnyP.blk (h : AnyP w base A n c) : ∀ k, BlkOf A k → base ≤ k ∧ k < w.heap.size := by
  rintro k ⟨p, rfl, rfl⟩
  obtain ⟨xs, hx⟩ := h
  rcases hx.2 with ⟨q, _⟩ | ⟨g, cap, cur, hv, hb, hg, _⟩
  · cases q
  · injection hv with e1
    injection e1 with e1
    subst e1
    exact ⟨hb, (Array.getElem?_eq_some_iff.1 hg).1⟩
theorem AnyP.turn (h : AnyP w base A n c) (t : Turn F w w') (hF : ∀ k, BlkOf A k → ¬ F k) : AnyP w' base A n c := by
  have hb := h.blk
  obtain ⟨xs, hx⟩ := h
  exact ⟨xs, own_kept hx fun k hk => t.block k (hb k hk).2 (hF k hk)⟩
theorem AnyP.keep (h : AnyP w base A n c) (g : Grow w w') : AnyP w' base A n c := h.turn (Turn.grow g fun _ => False) fun _ _ q => q
theorem AnyP.set (h : AnyP w base A n c) (g j : Nat) (u : Value) : AnyP (w.setCell ⟨g, j, none⟩ u) base A n c := by
  have hb := h.blk
  obtain ⟨xs, hx⟩ := h
  by_cases hg : BlkOf A g
  · obtain ⟨p, rfl, rfl⟩ := hg
    rcases hx.2 with ⟨q, q2⟩ | ⟨g, cap, cur, hv, hb, hg, _⟩
    · cases q
    · injection hv with e1
      injection e1 with e1
      subst e1
      exact ⟨_, (World.ownsRow.stored hx j u).1⟩
  · exact ⟨xs, own_kept hx fun k hk => Below.heap_setCell _ _ _ _ fun (e : k = g) => hg (e ▸ hk)⟩
theorem AnyP.at_ (h : AnyP w base A n c) {j : Nat} (hj : j < n) : ∃ g, A = some ⟨g, 0, none⟩ ∧ base ≤ g ∧ g < w.heap.size ∧ (∃ v, w.cell? ⟨g, j * 2, none⟩ = some v) ∧ (∃ v, w.cell? ⟨g, j * 2 + 1, none⟩ = some v) ∧ w.frozen? ⟨g, j * 2, none⟩ = false ∧ w.frozen? ⟨g, j * 2 + 1, none⟩ = false := by
  obtain ⟨xs, hx⟩ := h
  obtain ⟨h1, h2⟩ := id hx
  rcases h2 with ⟨q, q2⟩ | ⟨g, cap, cur, hv, hb, hg, hn, hm, _, _⟩
  · injection q with _ q; omega
  · injection hv with e1 e2 e3
    subst e1 e3
    refine ⟨g, rfl, hb, (Array.getElem?_eq_some_iff.1 hg).1, ⟨xs[j * 2]'(by omega), ?_⟩, ⟨xs[j * 2 + 1]'(by omega), ?_⟩, World.ownsRow.frozenAt hx _, World.ownsRow.frozenAt hx _⟩
    · rw [World.ownsRow.cellAt hx (j * 2) (by omega)]; simp
    · rw [World.ownsRow.cellAt hx (j * 2 + 1) (by omega)]; simp
end
theorem OP.any {w : World} {base n c : Nat} {A : Option Addr} {L : List PT} (h : OP w base (.slice A n c) L) (hn : n = L.length) : AnyP w base A n c := by
  subst hn; exact ⟨_, h⟩

/-- A row of rows of patches, all of the call's own, the row itself none of them. -/
def AnyW (w : World) (base : Nat) (A : Option Addr) (n c : Nat) : Prop :=
  ∃ xs, w.ownsRow base 22 1 (.slice A n c) n xs ∧ ∀ v ∈ xs, ∃ A' n' c', v = .slice A' n' c' ∧ n' ≤ 60000 ∧ AnyP w base A' n' c' ∧ ∀ k, BlkOf A' k → ¬ BlkOf A k
section
variable {w w' : World} {base n c : Nat} {A : Option Addr} {F : Nat → Prop}
theorem OW.any {w : World} {base n c : Nat} {A : Option Addr} {R : List RW} (h : OW w base (.slice A n c) R) (hn : n = R.length) (hs : ∀ r ∈ R, r.L.length ≤ 60000) : AnyW w base A n c := by
  subst hn
  refine ⟨_, h.1, fun v hv => ?_⟩
  obtain ⟨r, hr, rfl⟩ := List.mem_map.1 hv
  have ho := h.2.1 r hr
  have hb := h.2.2 r hr
  obtain ⟨A', c', e, -⟩ := ho.form
  rw [e] at ho hb ⊢
  refine ⟨A', _, c', rfl, hs r hr, ⟨_, ho⟩, fun k hk hk2 => ?_⟩
  obtain ⟨p, rfl, rfl⟩ := hk
  obtain ⟨q, rfl, e2⟩ := hk2
  exact hb p.block rfl (by simp [Value.ownBlock, e2])
/-- The row's cell at a place. -/
theorem AnyW.at_ (h : AnyW w base A n c) {j : Nat} (hj : j < n) : ∃ g A' n' c', A = some ⟨g, 0, none⟩ ∧ base ≤ g ∧ g < w.heap.size ∧ w.cell? ⟨g, j, none⟩ = some (.slice A' n' c') ∧ w.frozen? ⟨g, j, none⟩ = false ∧ n' ≤ 60000 ∧ AnyP w base A' n' c' ∧ ¬ BlkOf A' g := by
  obtain ⟨xs, hx, hr⟩ := h
  obtain ⟨h1, h2⟩ := id hx
  rcases h2 with ⟨q, q2⟩ | ⟨g, cap, cur, hv, hb, hg, hn, hm, _, _⟩
  · injection q with _ q; omega
  · injection hv with e1 e2 e3
    subst e1 e3
    obtain ⟨A', n', c', e, e2, e3, e4⟩ := hr (xs[j]'(by omega)) (List.getElem_mem _)
    refine ⟨g, A', n', c', rfl, hb, (Array.getElem?_eq_some_iff.1 hg).1, ?_, World.ownsRow.frozenAt hx _, e2, e3, fun k => e4 g k ⟨_, rfl, rfl⟩⟩
    rw [World.ownsRow.cellAt hx j (by omega), ← e]; simp
/-- A cell of one of the rows. -/
theorem AnyW.set (h : AnyW w base A n c) {g : Nat} (hg : ¬ BlkOf A g) (j : Nat) (u : Value) : AnyW (w.setCell ⟨g, j, none⟩ u) base A n c := by
  obtain ⟨xs, hx, hr⟩ := h
  refine ⟨xs, own_kept hx fun k hk => Below.heap_setCell _ _ _ _ fun (e : k = g) => hg (e ▸ hk), fun v hv => ?_⟩
  obtain ⟨A', n', c', e1, e2, e3, e4⟩ := hr v hv
  exact ⟨A', n', c', e1, e2, e3.set g j u, e4⟩
/-- The row's own cell is emptied. -/
theorem AnyW.empty {g : Nat} (h : AnyW w base (some ⟨g, 0, none⟩) n c) (j : Nat) : AnyW (w.setCell ⟨g, j, none⟩ (.slice none 0 0)) base (some ⟨g, 0, none⟩) n c := by
  obtain ⟨xs, hx, hr⟩ := h
  refine ⟨_, (World.ownsRow.stored hx j _).1, fun v hv => ?_⟩
  rcases List.mem_or_eq_of_mem_set hv with hv | rfl
  · obtain ⟨A', n', c', e1, e2, e3, e4⟩ := hr v hv
    exact ⟨A', n', c', e1, e2, e3.set g j _, e4⟩
  · exact ⟨none, 0, 0, rfl, by omega, ⟨[], World.ownsRow_nil _ _ _ _⟩, fun k ⟨p, hp, _⟩ => by cases hp⟩
end
end Go.Proofs.Ytncjfljmnkfghaa
