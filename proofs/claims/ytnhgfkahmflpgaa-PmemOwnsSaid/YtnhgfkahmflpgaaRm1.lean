/- commonsref03: the document's memory; Within, Load, Store. No statement of the seat is proved here. -/
import Derived.Test.YtnhgfkahmflpgaaPm8
import Derived.RegionTactic
import Derived.Deep.RegionWith
import Derived.Deep.DeepCutAuto
namespace Go.Proofs.Ytnhgfkahmflpgaa
open Go.RowKit

def tbs (A : List Bool) : List Value := A.map Value.bool
theorem tbs_at {A : List Bool} {k : Nat} (h : k < A.length) : (tbs A)[k]? = some (.bool (A.getD k false)) := by simp [tbs, List.getD_eq_getElem?_getD, h]
/-- The document's memory of N cells: what is seen, what lasts, what is on its way. -/
def RM (w : World) (x : MB) (N : Nat) (S T : List UInt8) (A : List Bool) : Prop := ∃ cs ct ca, (N % 8 = 0 ∧ 8 ≤ N ∧ N ≤ 131072) ∧ x.apart ∧
  CR w x.p 56 3 1 1 [.slice (some ⟨x.gs, 0, none⟩) (8 * N) cs, .slice (some ⟨x.gt, 0, none⟩) (8 * N) ct, .slice (some ⟨x.b, 0, none⟩) N ca] ∧ CR w x.gs 5 1 (8 * N) cs (bvs S) ∧ CR w x.gt 5 1 (8 * N) ct (bvs T) ∧ CR w x.b 4 1 N ca (tbs A)
section
variable {w w' : World} {x : MB} {N : Nat} {S T : List UInt8} {A : List Bool}
theorem RM.turn {F : Nat → Prop} (h : RM w x N S T A) (t : Turn F w w') (hF : ∀ k, F k → ¬ x.F k) : RM w' x N S T A := by
  obtain ⟨cs, ct, ca, h1, h3, h4, h5, h6, h7⟩ := h
  exact ⟨cs, ct, ca, h1, h3, h4.turn t (fun q => hF _ q (.inl rfl)), h5.turn t (fun q => hF _ q (.inr (.inl rfl))), h6.turn t (fun q => hF _ q (.inr (.inr (.inl rfl)))), h7.turn t (fun q => hF _ q (.inr (.inr (.inr rfl))))⟩
theorem RM.keep (h : RM w x N S T A) (g : Grow w w') : RM w' x N S T A := h.turn (Turn.grow g fun _ => False) (fun _ q => q.elim)
theorem RM.lenS (h : RM w x N S T A) : S.length = 8 * N := by obtain ⟨cs, ct, ca, h1, h3, h4, h5, h6, h7⟩ := h; have := h5.1; rw [bvs_length] at this; omega
theorem RM.lenT (h : RM w x N S T A) : T.length = 8 * N := by obtain ⟨cs, ct, ca, h1, h3, h4, h5, h6, h7⟩ := h; have := h6.1; rw [bvs_length] at this; omega
theorem RM.lenA (h : RM w x N S T A) : A.length = N := by obtain ⟨cs, ct, ca, h1, h3, h4, h5, h6, h7⟩ := h; have := h7.1; simpa [tbs] using this
theorem RM.bound (h : RM w x N S T A) : N % 8 = 0 ∧ 8 ≤ N ∧ N ≤ 131072 := by obtain ⟨cs, ct, ca, h1, h3, h4, h5, h6, h7⟩ := h; exact h1
theorem RM.lt (h : RM w x N S T A) : ∀ k, x.F k → k < w.heap.size := by
  obtain ⟨cs, ct, ca, h1, h3, h4, h5, h6, h7⟩ := h
  rintro k (rfl | rfl | rfl | rfl)
  · exact h4.lt
  · exact h5.lt
  · exact h6.lt
  · exact h7.lt
theorem RM.view (h : RM w x N S T A) : ∃ cs ct ca, 8 * N ≤ cs ∧ 8 * N ≤ ct ∧ N ≤ ca ∧ w.cell? ⟨x.p, 0, none⟩ = some (.slice (some ⟨x.gs, 0, none⟩) (8 * N) cs) ∧ w.cell? ⟨x.p, 1, none⟩ = some (.slice (some ⟨x.gt, 0, none⟩) (8 * N) ct) ∧ w.cell? ⟨x.p, 2, none⟩ = some (.slice (some ⟨x.b, 0, none⟩) N ca) ∧ x.p < w.heap.size := by
  obtain ⟨cs, ct, ca, h1, h3, h4, h5, h6, h7⟩ := h
  exact ⟨cs, ct, ca, h5.2.1, h6.2.1, h7.2.1, h4.cell rfl, h4.cell rfl, h4.cell rfl, h4.lt⟩
theorem RM.look (h : RM w x N S T A) : ∃ L cs ct ca, Hid (L = 8 * N) ∧ L ≤ cs ∧ L ≤ ct ∧ N ≤ ca ∧ w.cell? ⟨x.p, 0, none⟩ = some (.slice (some ⟨x.gs, 0, none⟩) L cs) ∧ w.cell? ⟨x.p, 1, none⟩ = some (.slice (some ⟨x.gt, 0, none⟩) L ct) ∧ w.cell? ⟨x.p, 2, none⟩ = some (.slice (some ⟨x.b, 0, none⟩) N ca) ∧ x.p < w.heap.size := by
  obtain ⟨cs, ct, ca, h1, h2, h3, h4, h5, h6, h7⟩ := h.view
  exact ⟨_, cs, ct, ca, Lib.hid rfl, h1, h2, h3, h4, h5, h6, h7⟩
theorem RM.seenAt (h : RM w x N S T A) {j : Nat} (hj : j < 8 * N) : w.cell? ⟨x.gs, j, none⟩ = some (.int .u8 ((S.getD j 0).toNat : Int)) ∧ w.frozen? ⟨x.gs, j, none⟩ = false := by
  have hl := h.lenS
  obtain ⟨cs, ct, ca, h1, h3, h4, h5, h6, h7⟩ := h
  exact ⟨h5.cell (bvs_at (by omega)), h5.frozen j⟩
theorem RM.lastAt (h : RM w x N S T A) {j : Nat} (hj : j < 8 * N) : w.cell? ⟨x.gt, j, none⟩ = some (.int .u8 ((T.getD j 0).toNat : Int)) ∧ w.frozen? ⟨x.gt, j, none⟩ = false := by
  have hl := h.lenT
  obtain ⟨cs, ct, ca, h1, h3, h4, h5, h6, h7⟩ := h
  exact ⟨h6.cell (bvs_at (by omega)), h6.frozen j⟩
theorem RM.awayAt (h : RM w x N S T A) {k : Nat} (hk : k < N) : w.cell? ⟨x.b, k, none⟩ = some (.bool (A.getD k false)) ∧ w.frozen? ⟨x.b, k, none⟩ = false := by
  have hl := h.lenA
  obtain ⟨cs, ct, ca, h1, h3, h4, h5, h6, h7⟩ := h
  exact ⟨h7.cell (tbs_at (by omega)), h7.frozen k⟩
theorem RM.seenSet (h : RM w x N S T A) (j : Nat) (u : UInt8) : RM (w.setCell ⟨x.gs, j, none⟩ (.int .u8 (u.toNat : Int))) x N (S.set j u) T A ∧ Turn x.F w (w.setCell ⟨x.gs, j, none⟩ (.int .u8 (u.toNat : Int))) := by
  obtain ⟨cs, ct, ca, h1, h3, h4, h5, h6, h7⟩ := h
  have hk : ∀ k, k ≠ x.gs → (w.setCell ⟨x.gs, j, none⟩ (.int .u8 (u.toNat : Int))).heap[k]? = w.heap[k]? := fun k hk => Below.heap_setCell _ _ _ _ hk
  refine ⟨⟨cs, ct, ca, h1, h3, h4.same (hk _ h3.1), ?_, h6.same (hk _ (Ne.symm h3.2.2.2.1)), h7.same (hk _ (Ne.symm h3.2.2.2.2.1))⟩, Turn.setCell w (.inr (.inl rfl)) _⟩
  have := h5.set j (bv u)
  rwa [bvs_set] at this
theorem RM.lastSet (h : RM w x N S T A) (j : Nat) (u : UInt8) : RM (w.setCell ⟨x.gt, j, none⟩ (.int .u8 (u.toNat : Int))) x N S (T.set j u) A ∧ Turn x.F w (w.setCell ⟨x.gt, j, none⟩ (.int .u8 (u.toNat : Int))) := by
  obtain ⟨cs, ct, ca, h1, h3, h4, h5, h6, h7⟩ := h
  have hk : ∀ k, k ≠ x.gt → (w.setCell ⟨x.gt, j, none⟩ (.int .u8 (u.toNat : Int))).heap[k]? = w.heap[k]? := fun k hk => Below.heap_setCell _ _ _ _ hk
  refine ⟨⟨cs, ct, ca, h1, h3, h4.same (hk _ h3.2.1), h5.same (hk _ h3.2.2.2.1), ?_, h7.same (hk _ (Ne.symm h3.2.2.2.2.2))⟩, Turn.setCell w (.inr (.inr (.inl rfl))) _⟩
  have := h6.set j (bv u)
  rwa [bvs_set] at this
theorem RM.awaySet (h : RM w x N S T A) (j : Nat) (v : Bool) : RM (w.setCell ⟨x.b, j, none⟩ (.bool v)) x N S T (A.set j v) ∧ Turn x.F w (w.setCell ⟨x.b, j, none⟩ (.bool v)) := by
  obtain ⟨cs, ct, ca, h1, h3, h4, h5, h6, h7⟩ := h
  have hk : ∀ k, k ≠ x.b → (w.setCell ⟨x.b, j, none⟩ (.bool v)).heap[k]? = w.heap[k]? := fun k hk => Below.heap_setCell _ _ _ _ hk
  refine ⟨⟨cs, ct, ca, h1, h3, h4.same (hk _ h3.2.2.1), h5.same (hk _ h3.2.2.2.2.1), h6.same (hk _ h3.2.2.2.2.2), ?_⟩, Turn.setCell w (.inr (.inr (.inr rfl))) _⟩
  have := h7.set j (.bool v)
  rwa [show (tbs A).set j (.bool v) = tbs (A.set j v) by simp [tbs, List.map_set]] at this
end

theorem rm_within {w : World} {x : MB} {N : Nat} {S T : List UInt8} {A : List Bool} (h : RM w x N S T A) (at_ n : Int) :
    Calls Try.prog 39 #[.pointer (some ⟨x.p, 0, none⟩), .int .i64 at_, .int .i64 n] w fun e w' => e = .returned (.bool (inW (8 * N) at_ n)) ∧ w = w' := by
  obtain ⟨hb1, hb2, hb3⟩ := h.bound
  obtain ⟨cs, ct, ca, -, -, -, c0, -, -, l0⟩ := h.view
  obtain ⟨L, hL⟩ : ∃ L, L = 8 * N := ⟨_, rfl⟩
  rw [← hL] at c0 ⊢
  by_cases h1 : 0 ≤ at_
  · by_cases h2 : 0 ≤ n
    · by_cases h3 : at_ ≤ (L : Int)
      · have e1 : wrap64 ((L : Int) - at_) = (L : Int) - at_ := IntWalk.wrap64_in _ (by omega)
        have e2 : inW L at_ n = decide (n ≤ (L : Int) - at_) := by clear e1; simp only [inW]; congr 1; apply propext; omega
        have d1 : decide (0 ≤ at_) = true := decide_eq_true h1
        have d2 : decide (0 ≤ n) = true := decide_eq_true h2
        have d3 : decide (at_ ≤ (L : Int)) = true := decide_eq_true h3
        rw [e2]
        clear e2 h h1 h2 h3 hL hb3
        go_enter Try.func39, Try.ntmps39
        go_wp2_with fail
        go_ret
        exact ⟨rfl, rfl⟩
      · have e2 : inW L at_ n = false := by simp only [inW]; apply decide_eq_false; omega
        have d1 : decide (0 ≤ at_) = true := decide_eq_true h1
        have d2 : decide (0 ≤ n) = true := decide_eq_true h2
        have d3 : decide (at_ ≤ (L : Int)) = false := decide_eq_false h3
        rw [e2]
        clear e2 h h1 h2 h3 hL hb3
        go_enter Try.func39, Try.ntmps39
        go_wp2_with fail
        go_ret
        exact ⟨rfl, rfl⟩
    · have e2 : inW L at_ n = false := by simp only [inW]; apply decide_eq_false; omega
      have d1 : decide (0 ≤ at_) = true := decide_eq_true h1
      have d2 : decide (0 ≤ n) = false := decide_eq_false h2
      rw [e2]
      clear e2 h h1 h2 hL hb3
      go_enter Try.func39, Try.ntmps39
      go_wp2_with fail
      go_ret
      exact ⟨rfl, rfl⟩
  · have e2 : inW L at_ n = false := by simp only [inW]; apply decide_eq_false; omega
    have d1 : decide (0 ≤ at_) = false := decide_eq_false h1
    rw [e2]
    clear e2 h h1 hL hb3
    go_enter Try.func39, Try.ntmps39
    go_wp2_with fail
    go_ret
    exact ⟨rfl, rfl⟩
end Go.Proofs.Ytnhgfkahmflpgaa
