/- pmem: New. No statement of the seat is proved here. -/
import Derived.Test.YtnhgfkahmflpgaaPm8
namespace Go.Proofs.Ytnhgfkahmflpgaa
open Go.RowKit

def zrow (N : Nat) : Array Value := Array.replicate (N * 8) (.int .u8 0)
theorem zrow_eq (N : Nat) : madeCells (Value.agg #[.int .u8 0, .int .u8 0, .int .u8 0, .int .u8 0, .int .u8 0, .int .u8 0, .int .u8 0, .int .u8 0]).cells (N * 8) = zrow N := by
  apply Array.ext
  · simp [madeCells, zrow]
  · intro j h1 h2
    have : j % 8 = 0 ∨ j % 8 = 1 ∨ j % 8 = 2 ∨ j % 8 = 3 ∨ j % 8 = 4 ∨ j % 8 = 5 ∨ j % 8 = 6 ∨ j % 8 = 7 := by omega
    rcases this with h | h | h | h | h | h | h | h <;> simp [madeCells, zrow, Value.cells, h]
theorem make_cells (N : Nat) (hN : N ≤ 131072) (w : World) : (Instr.makeSlice 50 (.int .i64 (N : Int)) (.int .i64 (N : Int))).run Try.prog w = .ok (.slice (some ⟨w.heap.size, 0, none⟩) N N) (w.alloc (.cells (zrow N) 62)) := by
  obtain ⟨i0, hi, hz, h1, h2⟩ := info_parts cell_info
  have := run_make (P := Try.prog) w 50 62 i0 _ Try.underlying50 hi hz .i64 .i64 N N (by omega) (Int.le_refl _) (by rw [h2]; omega) (by omega)
  simp only [Int.toNat_natCast, h1, zrow_eq] at this
  exact this
theorem CR.zero {w : World} {g N : Nat} (h : w.heap[g]? = some (.cells (zrow N) 62)) (hN : N ≤ 131072) : CR w g 62 8 N N (bvs (List.replicate (8 * N) 0)) := by
  refine ⟨by simp [bvs]; omega, Nat.le_refl _, by unfold maxLen; omega, _, h, by simp [zrow], ?_⟩
  rw [List.take_of_length_le (by simp [zrow])]
  simp [zrow, bvs, bv, Nat.mul_comm]
theorem pm_made {w : World} {p gs gt b N : Nat} (hN : N % 8 = 0 ∧ 8 ≤ N ∧ N ≤ 131072) (hap : (⟨p, gs, gt, b⟩ : MB).apart) (h1 : w.heap[p]? = some (.cells #[.slice (some ⟨gs, 0, none⟩) N N, .slice (some ⟨gt, 0, none⟩) N N, .map (some b)] 53))
    (h2 : w.heap[gs]? = some (.cells (zrow N) 62)) (h3 : w.heap[gt]? = some (.cells (zrow N) 62)) (h4 : w.heap[b]? = some (.map #[] 0)) :
    PM w ⟨p, gs, gt, b⟩ N (List.replicate (8 * N) 0) (List.replicate (8 * N) 0) (List.replicate N false) := by
  refine ⟨N, N, hN, by simp, hap, ⟨rfl, Nat.le_refl _, by unfold maxLen; omega, _, h1, rfl, rfl⟩, CR.zero h2 hN.2.2, CR.zero h3 hN.2.2, ⟨.map [], ⟨#[], 0, h4, ⟨by simp, Go.MapKept.stamped_empty 0, by simp⟩, Nat.zero_le _, rfl⟩, fun kl => ?_⟩⟩
  simp [Maps.has, List.getElem?_replicate]

theorem alloc4 (w : World) (a b c d : Obj) : ((((w.alloc a).alloc b).alloc c).alloc d).drew.heap[w.heap.size]? = some a ∧ ((((w.alloc a).alloc b).alloc c).alloc d).drew.heap[w.heap.size + 1]? = some b ∧ ((((w.alloc a).alloc b).alloc c).alloc d).drew.heap[w.heap.size + 1 + 1]? = some c ∧ ((((w.alloc a).alloc b).alloc c).alloc d).drew.heap[w.heap.size + 1 + 1 + 1]? = some d := by
  have hn : ∀ (W : World) (o : Obj), (W.alloc o).heap[W.heap.size]? = some o := fun W o => (MapKept.heap_alloc W o).1
  have hk : ∀ (W : World) (o : Obj) (i : Nat), i < W.heap.size → (W.alloc o).heap[i]? = W.heap[i]? := fun W o i h => (MapKept.heap_alloc W o).2 i h
  have s1 : (w.alloc a).heap.size = w.heap.size + 1 := by simp
  have s2 : ((w.alloc a).alloc b).heap.size = w.heap.size + 1 + 1 := by simp
  have s3 : (((w.alloc a).alloc b).alloc c).heap.size = w.heap.size + 1 + 1 + 1 := by simp
  have h1 := hn w a
  have h2 := hn (w.alloc a) b
  have h3 := hn ((w.alloc a).alloc b) c
  have h4 := hn (((w.alloc a).alloc b).alloc c) d
  rw [s1] at h2
  rw [s2] at h3
  rw [s3] at h4
  refine ⟨?_, ?_, ?_, ?_⟩
  · exact (hk _ d _ (by omega)).trans ((hk _ c _ (by omega)).trans ((hk _ b _ (by omega)).trans h1))
  · exact (hk _ d _ (by omega)).trans ((hk _ c _ (by omega)).trans h2)
  · exact (hk _ d _ (by omega)).trans h3
  · exact h4

def sizeB (n : Int) : Bool := decide (64 ≤ n ∧ n ≤ 1048576 ∧ n % 64 = 0)
theorem sizeB_iff {n : Int} : sizeB n = true ↔ 64 ≤ n ∧ n ≤ 1048576 ∧ n % 64 = 0 := by simp [sizeB]
theorem pm_new_no (n : Int) (h : sizeB n = false) (w : World) :
    Calls Try.prog 9 #[.int .i64 n] w fun e w' => e = .returned (.pointer none) ∧ w = w' := by
  have h0 : ¬ (64 ≤ n ∧ n ≤ 1048576 ∧ n % 64 = 0) := fun q => by rw [sizeB_iff.2 q] at h; cases h
  by_cases h1 : n < 64
  · have z1 : decide (n < 64) = true := decide_eq_true h1
    clear h h0 h1
    go_enter Try.func9, Try.ntmps9
    go_wp2_with fail
    go_ret
    exact ⟨rfl, rfl⟩
  · have z1 : decide (n < 64) = false := decide_eq_false h1
    by_cases h2 : 1048576 < n
    · have z2 : decide (1048576 < n) = true := decide_eq_true h2
      clear h h0 h1 h2
      go_enter Try.func9, Try.ntmps9
      go_wp2_with fail
      go_ret
      exact ⟨rfl, rfl⟩
    · have z2 : decide (1048576 < n) = false := decide_eq_false h2
      have z3 : (Int.tmod n 64 != 0) = true := by rw [Int.tmod_eq_emod_of_nonneg (by omega), bne_iff_ne]; omega
      clear h h0 h1 h2
      go_enter Try.func9, Try.ntmps9
      go_wp2_with fail
      go_ret
      exact ⟨rfl, rfl⟩
set_option maxHeartbeats 2000000 in
theorem pm_new_yes (N : Nat) (hN : N % 8 = 0 ∧ 8 ≤ N ∧ N ≤ 131072) (w : World) :
    Calls Try.prog 9 #[.int .i64 (8 * N : Nat)] w fun e w' => ∃ x : MB, e = .returned (.pointer (some ⟨x.p, 0, none⟩)) ∧ PM w' x N (List.replicate (8 * N) 0) (List.replicate (8 * N) 0) (List.replicate N false) ∧ (∀ k, x.F k → w.heap.size ≤ k) ∧ Grow w w' := by
  obtain ⟨n, hn⟩ : ∃ n, n = 8 * N := ⟨_, rfl⟩
  have z1 : decide ((n : Int) < 64) = false := decide_eq_false (by omega)
  have z2 : decide (1048576 < (n : Int)) = false := decide_eq_false (by omega)
  have z3 : (Int.tmod (n : Int) 64 != 0) = false := by rw [Int.tmod_eq_emod_of_nonneg (by omega), show (n : Int) % 64 = 0 by omega]; rfl
  have z4 : ((n : Int) % 64 != 0) = false := by rw [show (n : Int) % 64 = 0 by omega]; rfl
  have e0 : (n : Int) / 8 = (N : Int) := by clear z1 z2 z3 z4; omega
  have e1 : Int.tdiv (n : Int) 8 = (N : Int) := by clear e0; rw [Int.tdiv_eq_ediv_of_nonneg (by omega)]; omega
  have e2 := wrap_small (q := N) (by have := hN.2.2; clear z1 z2 z3 z4 e0 e1; omega)
  have hmk := make_cells N hN.2.2
  have hmm := @run_makeMap Try.prog
  have HN := Lib.hid hN
  have HNN := Lib.hid hn
  rw [← hn]
  clear hn hN
  go_enter Try.func9, Try.ntmps9
  go_upto_region 4 with (fail)
  go_cut [2] (fun s wx => ∃ x : MB, s = .pointer (some ⟨x.p, 0, none⟩) ∧ PM wx x N (List.replicate n 0) (List.replicate n 0) (List.replicate N false) ∧ (∀ k, x.F k → w.heap.size ≤ k) ∧ Grow w wx)
  case first =>
    go_region
    all_goals
      go_wp2_with fail
      go_meet
    all_goals
      obtain ⟨q0, q1, q2, q3⟩ := alloc4 w _ _ _ _
      first
        | exact ⟨⟨w.heap.size + 1 + 1 + 1, w.heap.size, w.heap.size + 1, w.heap.size + 1 + 1⟩, rfl, by rw [HNN.out]; exact pm_made HN.out (by unfold MB.apart; simp; try omega) q3 q0 q1 q2, fun k hk => by (rcases hk with h | h | h | h <;> simp at h <;> omega), (((((Grow.refl w).alloc _).alloc _).alloc _).alloc _).drew⟩
        | exact ⟨⟨w.heap.size + 1 + 1 + 1, w.heap.size, w.heap.size + 1 + 1, w.heap.size + 1⟩, rfl, by rw [HNN.out]; exact pm_made HN.out (by unfold MB.apart; simp; try omega) q3 q0 q2 q1, fun k hk => by (rcases hk with h | h | h | h <;> simp at h <;> omega), (((((Grow.refl w).alloc _).alloc _).alloc _).alloc _).drew⟩
        | exact ⟨⟨w.heap.size + 1 + 1 + 1, w.heap.size + 1, w.heap.size, w.heap.size + 1 + 1⟩, rfl, by rw [HNN.out]; exact pm_made HN.out (by unfold MB.apart; simp; try omega) q3 q1 q0 q2, fun k hk => by (rcases hk with h | h | h | h <;> simp at h <;> omega), (((((Grow.refl w).alloc _).alloc _).alloc _).alloc _).drew⟩
        | exact ⟨⟨w.heap.size + 1 + 1 + 1, w.heap.size + 1, w.heap.size + 1 + 1, w.heap.size⟩, rfl, by rw [HNN.out]; exact pm_made HN.out (by unfold MB.apart; simp; try omega) q3 q1 q2 q0, fun k hk => by (rcases hk with h | h | h | h <;> simp at h <;> omega), (((((Grow.refl w).alloc _).alloc _).alloc _).alloc _).drew⟩
        | exact ⟨⟨w.heap.size + 1 + 1 + 1, w.heap.size + 1 + 1, w.heap.size, w.heap.size + 1⟩, rfl, by rw [HNN.out]; exact pm_made HN.out (by unfold MB.apart; simp; try omega) q3 q2 q0 q1, fun k hk => by (rcases hk with h | h | h | h <;> simp at h <;> omega), (((((Grow.refl w).alloc _).alloc _).alloc _).alloc _).drew⟩
        | exact ⟨⟨w.heap.size + 1 + 1 + 1, w.heap.size + 1 + 1, w.heap.size + 1, w.heap.size⟩, rfl, by rw [HNN.out]; exact pm_made HN.out (by unfold MB.apart; simp; try omega) q3 q2 q1 q0, fun k hk => by (rcases hk with h | h | h | h <;> simp at h <;> omega), (((((Grow.refl w).alloc _).alloc _).alloc _).alloc _).drew⟩
  case rest =>
    obtain ⟨x, rfl, h1, h2, h3⟩ := hcut
    go_wp2_with fail
    go_ret
    exact ⟨x, rfl, h1, h2, h3⟩
end Go.Proofs.Ytnhgfkahmflpgaa
