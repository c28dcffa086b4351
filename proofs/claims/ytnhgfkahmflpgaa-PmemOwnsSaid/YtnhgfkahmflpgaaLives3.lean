/- commonslaw03.lives. No statement of the seat is proved here. -/
import Derived.Test.YtnhgfkahmflpgaaPm9
import Derived.Test.YtnhgfkahmflpgaaSame1
namespace Go.Proofs.Ytnhgfkahmflpgaa
open Go.RowKit

theorem RI.nil (w : World) : RI w none 0 [] := ⟨rfl, rfl, fun h => by omega⟩
theorem PM.newNot {w : World} {x : MB} {N : Nat} {S T : List UInt8} {A : List Bool} (h : PM w x N S T A) : ∀ p : Addr, (some (⟨w.heap.size, 0, none⟩ : Addr)) = some p → ¬ x.F p.block := by
  intro p hp q
  injection hp with hp
  subst hp
  have := h.lt _ q
  simp at this
/-- What the example stores, and what lasts of it. -/
def z64 : List UInt8 := List.replicate (8 * 8) 0
def zA8 : List Bool := List.replicate 8 false
def liveS (S : List UInt8) : List UInt8 := putL S 0 [1, 2]
def liveA (A : List Bool) : List Bool := clrL A 0 2
def liveF (S T : List UInt8) (A : List Bool) : List Bool := flushA S T A (lineB 0 1)
def liveC (S T : List UInt8) : List UInt8 := mixL S T (crashB (dirtyL S T 8) [] (dirtyL S T 8).length)
def liveM (S T : List UInt8) (A : List Bool) : List UInt8 := mixL S T fun k => A.getD k false
def live1 : List UInt8 := liveC (liveS z64) z64
def live2 : List UInt8 := liveM (liveS live1) live1 (liveF (liveS live1) live1 (liveA zA8))
def live3 : List UInt8 := liveC (liveS live1) live2
theorem live1_take : (live1.drop 0).take 2 = [0, 0] := by kernel_rfl
theorem live3_take : (live3.drop 0).take 2 = [1, 2] := by kernel_rfl

set_option maxHeartbeats 4000000 in
set_option maxRecDepth 4000 in
theorem lives3 (w : World) : Calls Try.prog 11 #[] w fun e w' => e = .returned (.bool true) ∧ Grow w w' := by
  go_enter Try.func11, Try.ntmps11
  go_wp2_with fail
  refine (pm_new_yes 8 (by decide) w).mono ?_
  rintro e w1 ⟨x, rfl, hP, hx, G⟩
  go_wp2_with fail
  refine (pm_store (hP.keep ((Grow.refl _).alloc _)) (Sl.lit w1 _ _ [1, 2] 2 rfl rfl (by omega)) (fun _ => hP.newNot) 0 (by decide)).mono ?_
  rintro e w2 ⟨rfl, hP2, t2⟩
  replace G := (G.alloc _).low (t2.low hx ((G.alloc _).size))
  clear hP t2
  go_wp2_with fail
  refine (pm_flush hP2 0 1 (by decide)).mono ?_
  rintro e w3 ⟨rfl, hP3, t3⟩
  replace G := G.low (t3.low hx G.size)
  clear hP2 t3
  go_wp2_with fail
  refine (pm_crash hP3 (RI.nil _) (fun _ p hp => by cases hp)).mono ?_
  rintro e w4 ⟨rfl, g4, hg4, hP4, t4⟩
  replace hP4 : PM w4 ⟨x.p, g4, x.gt, x.b⟩ 8 live1 live1 zA8 := hP4
  have hx4 : ∀ k, (⟨x.p, g4, x.gt, x.b⟩ : MB).F k → w.heap.size ≤ k := by
    intro k hk
    rcases hk with h | h | h | h
    · exact hx k (.inl h)
    · subst h; exact Nat.le_trans G.size hg4
    · exact hx k (.inr (.inr (.inl h)))
    · exact hx k (.inr (.inr (.inr h)))
  replace G := G.low (t4.low hx G.size)
  obtain ⟨y, hy⟩ : ∃ y : MB, y = ⟨x.p, g4, x.gt, x.b⟩ := ⟨_, rfl⟩
  have hyp : x.p = y.p := by rw [hy]
  rw [← hy] at hP4 hx4
  rw [hyp]
  clear hP3 t4 hx hg4 hy hyp
  go_wp2_with fail
  refine (pm_load hP4 0 2 (by decide)).mono ?_
  rintro e w5 ⟨A5, c5, rfl, ho5, g5⟩
  rw [live1_take] at ho5
  have hP5 := hP4.keep g5
  have hr5 := ho5.sl
  have hf5 : ∀ p, A5 = some p → ¬ y.F p.block := by
    intro p hp q
    obtain ⟨g, hA, hg, -⟩ := ho5.row (by omega)
    rw [hA] at hp
    injection hp with hp
    subst hp
    have := hP4.lt _ q
    simp at this
    omega
  replace G := G.trans g5
  clear hP4 ho5 g5
  go_wp2_with fail
  refine (pm_store (hP5.keep ((Grow.refl _).alloc _)) (Sl.lit w5 _ _ [1, 2] 2 rfl rfl (by omega)) (fun _ => hP5.newNot) 0 (by decide)).mono ?_
  rintro e w6 ⟨rfl, hP6, t6⟩
  replace hr5 := (hr5.alloc _).turn t6 (fun _ => hf5)
  replace G := (G.alloc _).low (t6.low hx4 ((G.alloc _).size))
  clear hP5 t6
  go_wp2_with fail
  refine (pm_flush hP6 0 1 (by decide)).mono ?_
  rintro e w7 ⟨rfl, hP7, t7⟩
  replace hr5 := hr5.turn t7 (fun _ => hf5)
  replace G := G.low (t7.low hx4 G.size)
  clear hP6 t7
  go_wp2_with fail
  refine (pm_fence hP7).mono ?_
  rintro e w8 ⟨rfl, hP8, t8⟩
  replace hr5 := hr5.turn t8 (fun _ => hf5)
  replace G := G.low (t8.low hx4 G.size)
  clear hP7 t8
  go_wp2_with fail
  refine (pm_crash hP8 (RI.nil _) (fun _ p hp => by cases hp)).mono ?_
  rintro e w9 ⟨rfl, g9, hg9, hP9, t9⟩
  replace hr5 := hr5.turn t9 (fun _ => hf5)
  replace hP9 : PM w9 ⟨y.p, g9, y.gt, y.b⟩ 8 live3 live3 zA8 := hP9
  replace G := G.low (t9.low hx4 G.size)
  clear hP8 t9
  go_wp2_with fail
  refine (pm_load hP9 0 2 (by decide)).mono ?_
  rintro e w10 ⟨A10, c10, rfl, ho10, g10⟩
  rw [live3_take] at ho10
  have hr10 := ho10.sl
  replace hr5 := hr5.keep g10
  replace G := G.trans g10
  clear hP9 ho10 g10 hf5
  go_wp2_with fail
  refine (same_yes (hr5.alloc _) (Sl.lit w10 _ _ [0, 0] 2 rfl rfl (by omega)) rfl).mono ?_
  rintro e w11 ⟨rfl, k11, hw11⟩
  replace hr10 : Sl w11 A10 2 [1, 2] := by rw [hw11]; exact (hr10.alloc _).drewN k11
  replace G : Grow w w11 := by rw [hw11]; exact (G.alloc _).drewN k11
  clear hr5 hw11
  go_wp2_with fail
  refine (same_yes (hr10.alloc _) (Sl.lit w11 _ _ [1, 2] 2 rfl rfl (by omega)) rfl).mono ?_
  rintro e w12 ⟨rfl, k12, hw12⟩
  replace G : Grow w w12 := by rw [hw12]; exact (G.alloc _).drewN k12
  clear hr10 hw12
  go_wp2_with fail
  refine (pm_new_no 65 (by decide) _).mono ?_
  rintro e w13 ⟨rfl, rfl⟩
  go_wp2_with fail
  go_ret
  exact ⟨rfl, G⟩
end Go.Proofs.Ytnhgfkahmflpgaa
