/- pmem: Dirty. No statement of the seat is proved here. -/
import Derived.Test.YtnhgfkahmflpgaaPm2
import Derived.Test.YtnhgfkahmflpgaaInts
import Derived.ChangeKeysEq
import Derived.RegionTactic
import Derived.Deep.RegionWith
import Derived.Deep.DeepCutAuto
namespace Go.Proofs.Ytnhgfkahmflpgaa
open Go.RowKit

theorem cells_u8 : Try.prog.cellsOf 5 = 1 := by kernel_rfl
theorem eqItems_u8 (d : Nat) (w : World) (xs ys : Array Value) (is : List Nat) (X Y : Nat → Int) (hX : ∀ i, i ∈ is → (part 5 xs (i * 1)).run Try.prog w = .ok (.int .u8 (X i)) w) (hY : ∀ i, i ∈ is → (part 5 ys (i * 1)).run Try.prog w = .ok (.int .u8 (Y i)) w) :
    (Op.eqItems (d + 1) 5 1 xs ys is).run Try.prog w = .ok (is.all fun i => X i == Y i) w := by
  induction is with
  | nil => simp [Op.eqItems]
  | cons j js ih =>
    have e1 := hX j (by simp)
    have e2 := hY j (by simp)
    have e3 := ih (fun i hi => hX i (by simp [hi])) (fun i hi => hY i (by simp [hi]))
    simp only [Op.eqItems, Sem.run_bind, e1, e2, Result.andThen_ok, run_equalIn_int w d 5 .u8 .u8 (X j) (Y j) Try.underlying5]
    cases h : (X j == Y j) <;> simp [h, e3]
set_option maxRecDepth 20000 in
theorem eql8u (d : Nat) (w : World) (a0 a1 a2 a3 a4 a5 a6 a7 c0 c1 c2 c3 c4 c5 c6 c7 : Int) : (Op.equalIn (d + 2) 62 (.agg #[.int .u8 a0, .int .u8 a1, .int .u8 a2, .int .u8 a3, .int .u8 a4, .int .u8 a5, .int .u8 a6, .int .u8 a7]) (.agg #[.int .u8 c0, .int .u8 c1, .int .u8 c2, .int .u8 c3, .int .u8 c4, .int .u8 c5, .int .u8 c6, .int .u8 c7])).run Try.prog w = .ok (a0 == c0 && a1 == c1 && a2 == c2 && a3 == c3 && a4 == c4 && a5 == c5 && a6 == c6 && a7 == c7) w := by
  obtain ⟨i0, hi, hz, h1, h2⟩ := info_parts byte_info
  rw [run_equalIn_array w (d + 1) _ _ Try.underlying62 hi, cells_u8]
  rw [eqItems_u8 d w _ _ _ (fun i => [a0, a1, a2, a3, a4, a5, a6, a7].getD i 0) (fun i => [c0, c1, c2, c3, c4, c5, c6, c7].getD i 0)]
  · simp [List.range, List.range.loop, Bool.and_assoc]
  · intro i hi
    have : i = 0 ∨ i = 1 ∨ i = 2 ∨ i = 3 ∨ i = 4 ∨ i = 5 ∨ i = 6 ∨ i = 7 := by simp at hi; omega
    rcases this with rfl | rfl | rfl | rfl | rfl | rfl | rfl | rfl <;> rfl
  · intro i hi
    have : i = 0 ∨ i = 1 ∨ i = 2 ∨ i = 3 ∨ i = 4 ∨ i = 5 ∨ i = 6 ∨ i = 7 := by simp at hi; omega
    rcases this with rfl | rfl | rfl | rfl | rfl | rfl | rfl | rfl <;> rfl
/-- A byte of S, of T at a place of cell k. -/
def sb (S : List UInt8) (k j : Nat) : Int := ((S.getD (k * 8 + j) 0).toNat : Int)
theorem dirty_eq (S T : List UInt8) (k : Nat) : (!(sb S k 0 == sb T k 0 && sb S k 1 == sb T k 1 && sb S k 2 == sb T k 2 && sb S k 3 == sb T k 3 && sb S k 4 == sb T k 4 && sb S k 5 == sb T k 5 && sb S k 6 == sb T k 6 && sb S k 7 == sb T k 7)) = dirtyB S T k := by
  have e : ∀ j, (sb S k j == sb T k j) = !(S.getD (8 * k + j) 0 != T.getD (8 * k + j) 0) := by
    intro j
    unfold sb
    rw [Nat.mul_comm 8 k]
    by_cases h : S.getD (k * 8 + j) 0 = T.getD (k * 8 + j) 0
    · rw [h]; simp
    · have h2 : ¬ ((S.getD (k * 8 + j) 0).toNat : Int) = ((T.getD (k * 8 + j) 0).toNat : Int) := fun q => h (UInt8.toNat_inj.1 (by omega))
      rw [beq_false_of_ne h2]
      simp only [bne, beq_false_of_ne h, Bool.not_false, Bool.not_true]
  simp only [e]
  unfold dirtyB
  simp [List.range, List.range.loop, Bool.not_and]
  simp only [Bool.or_assoc]
theorem PM.seenBytes {w : World} {x : MB} {N : Nat} {S T : List UInt8} {A : List Bool} (h : PM w x N S T A) {k : Nat} (hk : k < N) : ∀ j, j < 8 → w.cell? ⟨x.gs, k * 8 + j, none⟩ = some (.int .u8 (sb S k j)) := fun j hj => (h.seenAt (by omega)).1
theorem PM.lastBytes {w : World} {x : MB} {N : Nat} {S T : List UInt8} {A : List Bool} (h : PM w x N S T A) {k : Nat} (hk : k < N) : ∀ j, j < 8 → w.cell? ⟨x.gt, k * 8 + j, none⟩ = some (.int .u8 (sb T k j)) := fun j hj => (h.lastAt (by omega)).1
theorem dirtyL_succ (S T : List UInt8) (k : Nat) : dirtyL S T (k + 1) = if dirtyB S T k then dirtyL S T k ++ [(k : Int)] else dirtyL S T k := by
  unfold dirtyL
  rw [List.range_succ, List.filter_append]
  by_cases h : dirtyB S T k = true
  · rw [if_pos h]; simp [h]
  · rw [if_neg h]; simp [h]
theorem dirtyL_length (S T : List UInt8) (N : Nat) : (dirtyL S T N).length ≤ N := by
  unfold dirtyL
  rw [List.length_map]
  have := List.length_filter_le (dirtyB S T) (List.range N)
  simpa using this

def DirtyInv (w wr : World) (S T : List UInt8) (N : Nat) (out t : Value) : Prop := ∃ k : Nat, t = .int .i64 (k : Int) ∧ k ≤ N ∧ OI wr w.heap.size out (dirtyL S T k) ∧ Grow w wr

set_option maxHeartbeats 2000000 in
theorem pm_dirty {w : World} {x : MB} {N : Nat} {S T : List UInt8} {A : List Bool} (h : PM w x N S T A) :
    Calls Try.prog 21 #[.pointer (some ⟨x.p, 0, none⟩)] w fun e w' => ∃ v, e = .returned v ∧ OI w' w.heap.size v (dirtyL S T N) ∧ Grow w w' := by
  have HB := Lib.hid h.bound.2.2
  obtain ⟨cs, ct, hcs, hct, c0, c1, c2, l0⟩ := h.view
  go_enter Try.func21, Try.ntmps21
  go_wp2_with fail
  go_loopw [3, 10] (fun out t wr => DirtyInv w wr S T N out t) (fun _ t _ => N - (intOf t).toNat)
  case atStart => exact ⟨0, rfl, by omega, OI.nil _ _, Grow.refl _⟩
  case round =>
    obtain ⟨k, rfl, hk, ho, G⟩ := hrel
    clear c0 c1 c2 l0
    by_cases hlt : k < N
    · obtain ⟨cs', ct', hcs', hct', d0, d1, -, l1⟩ := (h.keep G).view
      have HS := (h.keep G).seenBytes hlt
      have HT := (h.keep G).lastBytes hlt
      have s0 := HS 0 (by omega); have s1 := HS 1 (by omega); have s2 := HS 2 (by omega); have s3 := HS 3 (by omega); have s4 := HS 4 (by omega); have s5 := HS 5 (by omega); have s6 := HS 6 (by omega); have s7 := HS 7 (by omega)
      have t0 := HT 0 (by omega); have t1 := HT 1 (by omega); have t2 := HT 2 (by omega); have t3 := HT 3 (by omega); have t4 := HT 4 (by omega); have t5 := HT 5 (by omega); have t6 := HT 6 (by omega); have t7 := HT 7 (by omega)
      rw [Nat.add_zero] at s0 t0
      have hq := eql8u
      have hdq := dirty_eq S T k
      have hsz := Below.size G
      have hlen : (dirtyL S T k).length + 1 ≤ 1000000 := by have := dirtyL_length S T k; have := HB.out; omega
      have HLEN := Lib.hid hlen
      have e5 := wrapS hlt (by have := HB.out; omega)
      have HD := Lib.hid hdq
      clear HS HT hlen hdq
      go_upto_region 5 with (fail)
      go_cut [27] (fun s wx => s = .bool (dirtyB S T k) ∧ Grow wr wx)
      case first =>
        go_quiet (fail)
        go_wp2_with fail
        go_meet
        exact ⟨by rw [← HD.out]; simp only [Bool.not_and, Bool.or_assoc], (Grow.refl _).drewN _⟩
      case rest =>
        obtain ⟨rfl, g1⟩ := hcut
        have G1 := G.trans g1
        have ho1 : OI wc w.heap.size u3 (dirtyL S T k) := World.ownsRow.kept ho g1.grown (own_none _)
        have hz1 := Below.size G1
        clear d0 d1 l1 s0 s1 s2 s3 s4 s5 s6 s7 t0 t1 t2 t3 t4 t5 t6 t7 hq HD ho G g1 hsz
        have HSUC := Lib.hid (dirtyL_succ S T k)
        cases hD : dirtyB S T k with
        | true =>
          have HSU := Lib.hid (show dirtyL S T (k + 1) = dirtyL S T k ++ [(k : Int)] by rw [HSUC.out, if_pos hD])
          clear hD
          go_wp2_with (at_builtin; refine wpList_appIone rfl (.tmp 28) (.tmp 30) rfl w.heap.size _ (dirtyL S T k) rfl _ (by rfl) ho1 HLEN.out hz1 ?_; intro v2 w2 o2 g2)
          have X : DirtyInv w w2 S T N v2 (.int .i64 ((k : Int) + 1)) := ⟨k + 1, by simp, hlt, by rw [HSU.out]; exact o2, G1.low g2⟩
          go_roundw
          case rel => (try rw [e5]); first | exact X | ((repeat apply Exists.intro); exact X) | ((repeat apply Exists.intro); refine ⟨X, ?_⟩; rfl)
          case measure => first | exact meas hlt | exact measW hlt e5
        | false =>
          have X : DirtyInv w wc S T N u3 (.int .i64 ((k : Int) + 1)) := ⟨k + 1, by simp, hlt, by rw [HSUC.out, if_neg (by rw [hD]; decide)]; exact ho1, G1⟩
          clear hD
          go_wp2_with fail
          go_roundw
          case rel => (try rw [e5]); first | exact X | ((repeat apply Exists.intro); exact X) | ((repeat apply Exists.intro); refine ⟨X, ?_⟩; rfl)
          case measure => first | exact meas hlt | exact measW hlt e5
    · obtain rfl : k = N := by omega
      go_wp2_with fail
      go_ret
      exact ⟨_, rfl, ho, G⟩
end Go.Proofs.Ytnhgfkahmflpgaa
