/- commonsref03: dirty, keep. pmem: New. commonsref03: Evict, Flush. commonsref03: Flush. No statement of the seat is proved here. -/
import Derived.Test.YtncjfljmnkfghaaZ05
namespace Go.Proofs.Ytncjfljmnkfghaa
open Go.RowKit

theorem wrap8 {k N : Nat} (h : k < N) (h' : N ≤ 131072) : wrap64 (8 * (k : Int)) = 8 * (k : Int) ∧ wrap64 (8 * (k : Int) + 8) = 8 * (k : Int) + 8 := ⟨IntWalk.wrap64_in _ (by omega), IntWalk.wrap64_in _ (by omega)⟩
def RDirtyInv (w wr : World) (S T : List UInt8) (k : Nat) (t : Value) : Prop := ∃ i : Nat, t = .int .i64 (i : Int) ∧ 8 * k ≤ i ∧ i ≤ 8 * k + 8 ∧ (∀ j, 8 * k ≤ j → j < i → S.getD j 0 = T.getD j 0) ∧ Grow w wr
theorem dirtyB_true {S T : List UInt8} {k i : Nat} (h1 : 8 * k ≤ i) (h2 : i < 8 * k + 8) (h : S.getD i 0 ≠ T.getD i 0) : dirtyB S T k = true := by
  unfold dirtyB
  refine List.any_eq_true.2 ⟨i - 8 * k, by simp; omega, ?_⟩
  rw [show 8 * k + (i - 8 * k) = i by omega]
  simpa using h
theorem dirtyB_false {S T : List UInt8} {k : Nat} (h : ∀ j, 8 * k ≤ j → j < 8 * k + 8 → S.getD j 0 = T.getD j 0) : dirtyB S T k = false := by
  unfold dirtyB
  refine List.any_eq_false.2 fun j hj => ?_
  have := h (8 * k + j) (by omega) (by simp at hj; omega)
  simp only [this, bne_self_eq_false, Bool.false_eq_true, not_false_eq_true]

set_option maxHeartbeats 2000000 in
set_option maxRecDepth 8000 in
theorem rm_dirty1 {w : World} {x : MB} {N : Nat} {S T : List UInt8} {A : List Bool} (h : RM w x N S T A) (k : Nat) (hk : k < N) :
    Calls Try.prog 85 #[.pointer (some ⟨x.p, 0, none⟩), .int .i64 (k : Nat)] w fun e w' => e = .returned (.bool (dirtyB S T k)) ∧ Grow w w' := by
  have HB := Lib.hid h.bound.2.2
  have H := Lib.hid h
  obtain ⟨p1, p2⟩ := wrap8 hk HB.out
  obtain ⟨c, hc⟩ : ∃ c, c = 8 * k := ⟨_, rfl⟩
  have hcc : 8 * (k : Int) = (c : Int) := by clear p1 p2; omega
  rw [hcc] at p1 p2
  have HC := Lib.hid hc
  clear h hc
  go_enter Try.func85, Try.ntmps85
  go_wp2_with fail
  simp only [p1]
  go_loopw [5] (fun t wr => RDirtyInv w wr S T k t) (fun t _ => c + 8 - (intOf t).toNat)
  case atStart => exact ⟨c, rfl, by rw [HC.out]; exact Nat.le_refl _, by rw [HC.out]; exact Nat.le_add_right _ _, fun j h1 h2 => by rw [HC.out] at h2; exact absurd h1 (Nat.not_le.2 h2), Grow.refl _⟩
  case round =>
    obtain ⟨i, rfl, hi1, hi2, hS, G⟩ := hrel
    rw [← HC.out] at hi1 hi2
    by_cases hlt : i < c + 8
    · have z1 : decide ((i : Int) < (c : Int) + 8) = true := decide_eq_true (by clear p1 p2 hcc; omega)
      have hiN : i < 8 * N := by have := HC.out; clear p1 p2 hcc; omega
      obtain ⟨L, cs, ct, ca, HLL, hcs, hct, -, c0, c1, -, l0⟩ := (H.out.keep G).look
      have hiL : i < L := by rw [HLL.out]; exact hiN
      obtain ⟨s0, -⟩ := (H.out.keep G).seenAt hiN
      obtain ⟨t0, -⟩ := (H.out.keep G).lastAt hiN
      obtain ⟨u, hu⟩ : ∃ u, u = S.getD i 0 := ⟨_, rfl⟩
      obtain ⟨v, hv⟩ : ∃ v, v = T.getD i 0 := ⟨_, rfl⟩
      rw [← hu] at s0
      rw [← hv] at t0
      have e5 := wrapS hiN (Nat.mul_le_mul_left 8 HB.out)
      have HS := Lib.hid hS
      have HU := Lib.hid hu
      have HV := Lib.hid hv
      have HI1 := Lib.hid hi1
      clear hS hu hv hi2 hi1 hiN
      by_cases he : u = v
      · have hq : ((u.toNat : Int) != (v.toNat : Int)) = false := by simp [he]
        have X : ∀ w2, Grow w w2 → RDirtyInv w w2 S T k (.int .i64 ((i : Int) + 1)) := fun w2 g => ⟨i + 1, by simp, by rw [← HC.out]; exact Nat.le_succ_of_le HI1.out, by rw [← HC.out]; exact hlt, fun j h1 h2 => by
          by_cases e : j = i
          · subst e; rw [← HU.out, ← HV.out, he]
          · exact HS.out j h1 (by clear p1 p2 hcc e5; omega), g⟩
        have HX := Lib.hid X
        clear X he
        go_wp2_with fail
        go_quiet (fail)
        go_wp2_with fail
        go_roundw
        case rel => (try rw [e5]); first | exact HX.out _ (G.drewN _) | ((repeat apply Exists.intro); exact HX.out _ (G.drewN _)) | ((repeat apply Exists.intro); refine ⟨HX.out _ (G.drewN _), ?_⟩; rfl)
        case measure => first | exact meas hlt | exact measW hlt e5
      · have hq : ((u.toNat : Int) != (v.toNat : Int)) = true := by rw [bne_iff_ne]; exact fun q => he (UInt8.toNat_inj.1 (by clear p1 p2 hcc e5; omega))
        have HD := Lib.hid (dirtyB_true (S := S) (T := T) (k := k) (i := i) (by rw [← HC.out]; exact HI1.out) (by rw [← HC.out]; exact hlt) (by rw [← HU.out, ← HV.out]; exact he))
        clear he
        go_wp2_with fail
        go_quiet (fail)
        go_wp2_with fail
        go_ret
        exact ⟨by rw [HD.out]; rfl, G.drewN _⟩
    · have z1 : decide ((i : Int) < (c : Int) + 8) = false := decide_eq_false (by clear p1 p2 hcc; omega)
      have HD := Lib.hid (dirtyB_false (S := S) (T := T) (k := k) (fun j h1 h2 => hS j h1 (by have := HC.out; clear p1 p2 hcc; omega)))
      clear hS
      go_wp2_with fail
      go_ret
      exact ⟨by rw [HD.out]; rfl, G⟩

def RKeepInv (w wr : World) (x : MB) (N : Nat) (S T : List UInt8) (A : List Bool) (k : Nat) (t : Value) : Prop := ∃ i : Nat, t = .int .i64 (i : Int) ∧ 8 * k ≤ i ∧ i ≤ 8 * k + 8 ∧ RM wr x N S (keepN S T (8 * k) (i - 8 * k)) A ∧ Turn x.F w wr

set_option maxHeartbeats 2000000 in
set_option maxRecDepth 8000 in
theorem rm_keep {w : World} {x : MB} {N : Nat} {S T : List UInt8} {A : List Bool} (h : RM w x N S T A) (k : Nat) (hk : k < N) :
    Calls Try.prog 83 #[.pointer (some ⟨x.p, 0, none⟩), .int .i64 (k : Nat)] w fun e w' => e = .returned (.tuple #[]) ∧ RM w' x N S (keepN S T (8 * k) 8) (A.set k false) ∧ Turn x.F w w' := by
  have HB := Lib.hid h.bound.2.2
  have H := Lib.hid h
  obtain ⟨p1, p2⟩ := wrap8 hk HB.out
  obtain ⟨c, hc⟩ : ∃ c, c = 8 * k := ⟨_, rfl⟩
  have hcc : 8 * (k : Int) = (c : Int) := by clear p1 p2; omega
  rw [hcc] at p1 p2
  have HC := Lib.hid hc
  clear h hc
  go_enter Try.func83, Try.ntmps83
  go_wp2_with fail
  simp only [p1]
  go_loopw [4] (fun t wr => RKeepInv w wr x N S T A k t) (fun t _ => c + 8 - (intOf t).toNat)
  case atStart => exact ⟨c, rfl, by rw [HC.out]; exact Nat.le_refl _, by rw [HC.out]; exact Nat.le_add_right _ _, by rw [HC.out, Nat.sub_self]; exact H.out, Turn.refl _ _⟩
  case round =>
    obtain ⟨i, rfl, hi1, hi2, hP, ht⟩ := hrel
    rw [← HC.out] at hi1 hi2
    by_cases hlt : i < c + 8
    · have z1 : decide ((i : Int) < (c : Int) + 8) = true := decide_eq_true (by clear p1 p2 hcc; omega)
      have hiN : i < 8 * N := by have := HC.out; clear p1 p2 hcc; omega
      obtain ⟨L, cs, ct, ca, HLL, hcs, hct, -, c0, c1, -, l0⟩ := hP.look
      have hiL : i < L := by rw [HLL.out]; exact hiN
      obtain ⟨s0, -⟩ := hP.seenAt hiN
      obtain ⟨t0, f0⟩ := hP.lastAt hiN
      obtain ⟨u, hu⟩ : ∃ u, u = S.getD i 0 := ⟨_, rfl⟩
      rw [← hu] at s0
      have e5 := wrapS hiN (Nat.mul_le_mul_left 8 HB.out)
      obtain ⟨hP2, t2⟩ := hP.lastSet i u
      have hstep : (keepN S T (8 * k) (i - 8 * k)).set i u = keepN S T (8 * k) (i + 1 - 8 * k) := by
        have hc1 := HC.out
        rw [show i + 1 - 8 * k = (i - 8 * k) + 1 by clear p1 p2 hcc e5; omega, keepN, show 8 * k + (i - 8 * k) = i by clear p1 p2 hcc e5; omega, hu]
      rw [hstep] at hP2
      have HP2 := Lib.hid hP2
      have HT2 := Lib.hid (ht.and t2)
      have HI1 := Lib.hid hi1
      have X : RKeepInv w (wr.setCell ⟨x.gt, i, none⟩ (.int .u8 (u.toNat : Int))).drew x N S T A k (.int .i64 ((i : Int) + 1)) := ⟨i + 1, by simp, by rw [← HC.out]; exact Nat.le_succ_of_le HI1.out, by rw [← HC.out]; exact hlt, HP2.out.keep ((Grow.refl _).drew), HT2.out.andGrow ((Grow.refl _).drew)⟩
      clear hP ht hP2 t2 hstep hu hi2 hi1 hiN
      go_wp2_with fail
      go_region
      go_wp2_with fail
      go_roundw
      case rel => (try rw [e5]); first | exact X | ((repeat apply Exists.intro); exact X) | ((repeat apply Exists.intro); refine ⟨X, ?_⟩; rfl)
      case measure => first | exact meas hlt | exact measW hlt e5
    · have z1 : decide ((i : Int) < (c : Int) + 8) = false := decide_eq_false (by clear p1 p2 hcc; omega)
      obtain rfl : i = c + 8 := by clear p1 p2 hcc; omega
      have hP0 : RM wr x N S (keepN S T (8 * k) 8) A := by rw [← HC.out] at hP ⊢; rw [Nat.add_sub_cancel_left] at hP; exact hP
      obtain ⟨L, cs, ct, ca, HLL, hcs, hct, hca, -, -, c2, l0⟩ := hP0.look
      obtain ⟨a0, f0⟩ := hP0.awayAt hk
      obtain ⟨hP2, t2⟩ := hP0.awaySet k false
      have HP2 := Lib.hid hP2
      have HT2 := Lib.hid (ht.and t2)
      clear hP ht hP0 hP2 t2
      go_wp2_with fail
      go_end0
      exact ⟨rfl, HP2.out, HT2.out⟩
end Go.Proofs.Ytncjfljmnkfghaa

namespace Go.Proofs.Ytncjfljmnkfghaa
open Go.RowKit

def zrow (N : Nat) : Array Value := Array.replicate (N * 8) (.int .u8 0)
theorem zrow_eq (N : Nat) : madeCells (Value.agg #[.int .u8 0, .int .u8 0, .int .u8 0, .int .u8 0, .int .u8 0, .int .u8 0, .int .u8 0, .int .u8 0]).cells (N * 8) = zrow N := by
  apply Array.ext
  · simp [madeCells, zrow]
  · intro j h1 h2
    have : j % 8 = 0 ∨ j % 8 = 1 ∨ j % 8 = 2 ∨ j % 8 = 3 ∨ j % 8 = 4 ∨ j % 8 = 5 ∨ j % 8 = 6 ∨ j % 8 = 7 := by omega
    rcases this with h | h | h | h | h | h | h | h <;> simp [madeCells, zrow, Value.cells, h]
theorem make_cells (N : Nat) (hN : N ≤ 131072) (w : World) : (Instr.makeSlice 79 (.int .i64 (N : Int)) (.int .i64 (N : Int))).run Try.prog w = .ok (.slice (some ⟨w.heap.size, 0, none⟩) N N) (w.alloc (.cells (zrow N) 95)) := by
  obtain ⟨i0, hi, hz, h1, h2⟩ := info_parts cell_info
  have := run_make (P := Try.prog) w 79 95 i0 _ Try.underlying79 hi hz .i64 .i64 N N (by omega) (Int.le_refl _) (by rw [h2]; omega) (by omega)
  simp only [Int.toNat_natCast, h1, zrow_eq] at this
  exact this
theorem CR.zero {w : World} {g N : Nat} (h : w.heap[g]? = some (.cells (zrow N) 95)) (hN : N ≤ 131072) : CR w g 95 8 N N (bvs (List.replicate (8 * N) 0)) := by
  refine ⟨by simp [bvs]; omega, Nat.le_refl _, by unfold maxLen; omega, _, h, by simp [zrow], ?_⟩
  rw [List.take_of_length_le (by simp [zrow])]
  simp [zrow, bvs, bv, Nat.mul_comm]
theorem pm_made {w : World} {p gs gt b N : Nat} (hN : N % 8 = 0 ∧ 8 ≤ N ∧ N ≤ 131072) (hap : (⟨p, gs, gt, b⟩ : MB).apart) (h1 : w.heap[p]? = some (.cells #[.slice (some ⟨gs, 0, none⟩) N N, .slice (some ⟨gt, 0, none⟩) N N, .map (some b)] 82))
    (h2 : w.heap[gs]? = some (.cells (zrow N) 95)) (h3 : w.heap[gt]? = some (.cells (zrow N) 95)) (h4 : w.heap[b]? = some (.map #[] 0)) :
    PM w ⟨p, gs, gt, b⟩ N (List.replicate (8 * N) 0) (List.replicate (8 * N) 0) (List.replicate N false) := by
  refine ⟨N, N, hN, by simp, hap, ⟨rfl, Nat.le_refl _, by unfold maxLen; omega, _, h1, rfl, rfl⟩, CR.zero h2 hN.2.2, CR.zero h3 hN.2.2, ⟨.map [], ⟨#[], 0, h4, ⟨by simp, Go.MapKept.stamped_empty 0, by simp⟩, Nat.zero_le _, rfl⟩, fun kl => ?_⟩⟩
  simp [Maps.has, List.getElem?_replicate]

theorem alloc4 (w : World) (a b c d : Obj) : ((((w.alloc a).alloc b).alloc c).alloc d).drew.heap[w.heap.size]? = some a ∧ ((((w.alloc a).alloc b).alloc c).alloc d).drew.heap[w.heap.size + 1]? = some b ∧ ((((w.alloc a).alloc b).alloc c).alloc d).drew.heap[w.heap.size + 1 + 1]? = some c ∧ ((((w.alloc a).alloc b).alloc c).alloc d).drew.heap[w.heap.size + 1 + 1 + 1]? = some d := by
  have hn : ∀ (W : World) (o : Obj), (W.alloc o).heap[W.heap.size]? = some o := fun W o => (MapKept.heap_alloc W o).1
  have hk : ∀ (W : World) (o : Obj) (i : Nat), i < W.heap.size → (W.alloc o).heap[i]? = W.heap[i]? := fun W o i h => (MapKept.heap_alloc W o).2 i h
  have s1 : (w.alloc a).heap.size = w.heap.size + 1 := by simp
  have s2 : ((w.alloc a).alloc b).heap.size = w.heap.size + 1 + 1 := by simp
  have s3 : (((w.alloc a).alloc b).alloc c).heap.size = w.heap.size + 1 + 1 + 1 := by simp
  have h1 := hn w a
  have h2 := hn (w.alloc a) b
  have h3 := hn ((w.alloc a).alloc b) c
  have h4 := hn (((w.alloc a).alloc b).alloc c) d
  rw [s1] at h2
  rw [s2] at h3
  rw [s3] at h4
  refine ⟨?_, ?_, ?_, ?_⟩
  · exact (hk _ d _ (by omega)).trans ((hk _ c _ (by omega)).trans ((hk _ b _ (by omega)).trans h1))
  · exact (hk _ d _ (by omega)).trans ((hk _ c _ (by omega)).trans h2)
  · exact (hk _ d _ (by omega)).trans h3
  · exact h4

def sizeB (n : Int) : Bool := decide (64 ≤ n ∧ n ≤ 1048576 ∧ n % 64 = 0)
theorem sizeB_iff {n : Int} : sizeB n = true ↔ 64 ≤ n ∧ n ≤ 1048576 ∧ n % 64 = 0 := by simp [sizeB]
theorem pm_new_no (n : Int) (h : sizeB n = false) (w : World) :
    Calls Try.prog 20 #[.int .i64 n] w fun e w' => e = .returned (.pointer none) ∧ w = w' := by
  have h0 : ¬ (64 ≤ n ∧ n ≤ 1048576 ∧ n % 64 = 0) := fun q => by rw [sizeB_iff.2 q] at h; cases h
  by_cases h1 : n < 64
  · have z1 : decide (n < 64) = true := decide_eq_true h1
    clear h h0 h1
    go_enter Try.func20, Try.ntmps20
    go_wp2_with fail
    go_ret
    exact ⟨rfl, rfl⟩
  · have z1 : decide (n < 64) = false := decide_eq_false h1
    by_cases h2 : 1048576 < n
    · have z2 : decide (1048576 < n) = true := decide_eq_true h2
      clear h h0 h1 h2
      go_enter Try.func20, Try.ntmps20
      go_wp2_with fail
      go_ret
      exact ⟨rfl, rfl⟩
    · have z2 : decide (1048576 < n) = false := decide_eq_false h2
      have z3 : (Int.tmod n 64 != 0) = true := by rw [Int.tmod_eq_emod_of_nonneg (by omega), bne_iff_ne]; omega
      clear h h0 h1 h2
      go_enter Try.func20, Try.ntmps20
      go_wp2_with fail
      go_ret
      exact ⟨rfl, rfl⟩
set_option maxHeartbeats 2000000 in
theorem pm_new_yes (N : Nat) (hN : N % 8 = 0 ∧ 8 ≤ N ∧ N ≤ 131072) (w : World) :
    Calls Try.prog 20 #[.int .i64 (8 * N : Nat)] w fun e w' => ∃ x : MB, e = .returned (.pointer (some ⟨x.p, 0, none⟩)) ∧ PM w' x N (List.replicate (8 * N) 0) (List.replicate (8 * N) 0) (List.replicate N false) ∧ (∀ k, x.F k → w.heap.size ≤ k) ∧ Grow w w' := by
  obtain ⟨n, hn⟩ : ∃ n, n = 8 * N := ⟨_, rfl⟩
  have z1 : decide ((n : Int) < 64) = false := decide_eq_false (by omega)
  have z2 : decide (1048576 < (n : Int)) = false := decide_eq_false (by omega)
  have z3 : (Int.tmod (n : Int) 64 != 0) = false := by rw [Int.tmod_eq_emod_of_nonneg (by omega), show (n : Int) % 64 = 0 by omega]; rfl
  have z4 : ((n : Int) % 64 != 0) = false := by rw [show (n : Int) % 64 = 0 by omega]; rfl
  have e0 : (n : Int) / 8 = (N : Int) := by clear z1 z2 z3 z4; omega
  have e1 : Int.tdiv (n : Int) 8 = (N : Int) := by clear e0; rw [Int.tdiv_eq_ediv_of_nonneg (by omega)]; omega
  have e2 := wrap_small (q := N) (by have := hN.2.2; clear z1 z2 z3 z4 e0 e1; omega)
  have hmk := make_cells N hN.2.2
  have hmm := @run_makeMap Try.prog
  have HN := Lib.hid hN
  have HNN := Lib.hid hn
  rw [← hn]
  clear hn hN
  go_enter Try.func20, Try.ntmps20
  go_upto_region 4 with (fail)
  go_cut [2] (fun s wx => ∃ x : MB, s = .pointer (some ⟨x.p, 0, none⟩) ∧ PM wx x N (List.replicate n 0) (List.replicate n 0) (List.replicate N false) ∧ (∀ k, x.F k → w.heap.size ≤ k) ∧ Grow w wx)
  case first =>
    go_region
    all_goals
      go_wp2_with fail
      go_meet
    all_goals
      obtain ⟨q0, q1, q2, q3⟩ := alloc4 w _ _ _ _
      first
        | exact ⟨⟨w.heap.size + 1 + 1 + 1, w.heap.size, w.heap.size + 1, w.heap.size + 1 + 1⟩, rfl, by rw [HNN.out]; exact pm_made HN.out (by unfold MB.apart; simp; try omega) q3 q0 q1 q2, fun k hk => by (rcases hk with h | h | h | h <;> simp at h <;> omega), (((((Grow.refl w).alloc _).alloc _).alloc _).alloc _).drew⟩
        | exact ⟨⟨w.heap.size + 1 + 1 + 1, w.heap.size, w.heap.size + 1 + 1, w.heap.size + 1⟩, rfl, by rw [HNN.out]; exact pm_made HN.out (by unfold MB.apart; simp; try omega) q3 q0 q2 q1, fun k hk => by (rcases hk with h | h | h | h <;> simp at h <;> omega), (((((Grow.refl w).alloc _).alloc _).alloc _).alloc _).drew⟩
        | exact ⟨⟨w.heap.size + 1 + 1 + 1, w.heap.size + 1, w.heap.size, w.heap.size + 1 + 1⟩, rfl, by rw [HNN.out]; exact pm_made HN.out (by unfold MB.apart; simp; try omega) q3 q1 q0 q2, fun k hk => by (rcases hk with h | h | h | h <;> simp at h <;> omega), (((((Grow.refl w).alloc _).alloc _).alloc _).alloc _).drew⟩
        | exact ⟨⟨w.heap.size + 1 + 1 + 1, w.heap.size + 1, w.heap.size + 1 + 1, w.heap.size⟩, rfl, by rw [HNN.out]; exact pm_made HN.out (by unfold MB.apart; simp; try omega) q3 q1 q2 q0, fun k hk => by (rcases hk with h | h | h | h <;> simp at h <;> omega), (((((Grow.refl w).alloc _).alloc _).alloc _).alloc _).drew⟩
        | exact ⟨⟨w.heap.size + 1 + 1 + 1, w.heap.size + 1 + 1, w.heap.size, w.heap.size + 1⟩, rfl, by rw [HNN.out]; exact pm_made HN.out (by unfold MB.apart; simp; try omega) q3 q2 q0 q1, fun k hk => by (rcases hk with h | h | h | h <;> simp at h <;> omega), (((((Grow.refl w).alloc _).alloc _).alloc _).alloc _).drew⟩
        | exact ⟨⟨w.heap.size + 1 + 1 + 1, w.heap.size + 1 + 1, w.heap.size + 1, w.heap.size⟩, rfl, by rw [HNN.out]; exact pm_made HN.out (by unfold MB.apart; simp; try omega) q3 q2 q1 q0, fun k hk => by (rcases hk with h | h | h | h <;> simp at h <;> omega), (((((Grow.refl w).alloc _).alloc _).alloc _).alloc _).drew⟩
  case rest =>
    obtain ⟨x, rfl, h1, h2, h3⟩ := hcut
    go_wp2_with fail
    go_ret
    exact ⟨x, rfl, h1, h2, h3⟩
end Go.Proofs.Ytncjfljmnkfghaa

namespace Go.Proofs.Ytncjfljmnkfghaa
open Go.RowKit

def REvInv (w wr : World) (x : MB) (N : Nat) (S T : List UInt8) (A : List Bool) (l : Nat) (t : Value) : Prop := ∃ k : Nat, t = .int .i64 (k : Int) ∧ 8 * l ≤ k ∧ k ≤ 8 * l + 8 ∧ RM wr x N S (mixL S T (inC (8 * l) (k - 8 * l))) (clrC A (8 * l) (k - 8 * l)) ∧ Turn x.F w wr
theorem tdivL {L N : Nat} (h : L = 8 * N) (h8 : N % 8 = 0) : Int.tdiv (L : Int) 64 = ((N / 8 : Nat) : Int) := by rw [Int.tdiv_eq_ediv_of_nonneg (by omega)]; omega
theorem wrap8c {l N : Nat} (h : 8 * l < N) (h' : N ≤ 131072) : wrap64 (8 * (l : Int)) = 8 * (l : Int) ∧ wrap64 (8 * (l : Int) + 8) = 8 * (l : Int) + 8 := ⟨IntWalk.wrap64_in _ (by omega), IntWalk.wrap64_in _ (by omega)⟩

end Go.Proofs.Ytncjfljmnkfghaa

namespace Go.Proofs.Ytncjfljmnkfghaa
open Go.RowKit

theorem rm_flush_no {w : World} {x : MB} {N : Nat} {S T : List UInt8} {A : List Bool} (h : RM w x N S T A) (at_ n : Int) (hin : inW (8 * N) at_ n = false) :
    Calls Try.prog 69 #[.pointer (some ⟨x.p, 0, none⟩), .int .i64 at_, .int .i64 n] w fun e w' => e = .returned (.int .i64 1) ∧ w = w' := by
  have hw := rm_within h at_ n
  rw [hin] at hw
  have HW := Lib.hid hw
  clear hw hin h
  go_enter Try.func69, Try.ntmps69
  go_wp2_with fail
  refine HW.out.mono ?_
  rintro e w1 ⟨rfl, rfl⟩
  go_wp2_with fail
  go_ret
  exact ⟨rfl, rfl⟩
theorem pm_flush_no {w : World} {x : MB} {N : Nat} {S T : List UInt8} {A : List Bool} (h : PM w x N S T A) (at_ n : Int) (hn : -9223372036854775808 ≤ n) (hn' : n ≤ 9223372036854775807) (hin : inW (8 * N) at_ n = false) :
    Calls Try.prog 35 #[.pointer (some ⟨x.p, 0, none⟩), .int .i64 at_, .int .i64 n] w fun e w' => e = .returned (.int .i64 1) ∧ Grow w w' := by
  have h1 := h.keep ((Grow.refl w).alloc (.cells #[.pointer (some ⟨x.p, 0, none⟩)] 36))
  have hw := pm_within h1 at_ n hn hn'
  rw [hin] at hw
  have HW := Lib.hid hw
  have K1 := (Blk.new w 36 [.pointer (some ⟨x.p, 0, none⟩)] _ (0, 0) rfl).c1
  clear hw hin h h1 hn hn'
  go_enter Try.func35, Try.ntmps35
  go_wp2_with fail
  refine HW.out.mono ?_
  rintro e w1 ⟨rfl, rfl⟩
  go_wp2_with fail
  go_ret
  exact ⟨rfl, (Grow.refl w).alloc _⟩

def ltB (B : Nat → Bool) (k : Nat) : Nat → Bool := fun j => B j && decide (j < k)
def RFlushInv (w wr : World) (x : MB) (N : Nat) (S T : List UInt8) (A : List Bool) (a m : Nat) (t : Value) : Prop := ∃ k : Nat, t = .int .i64 (k : Int) ∧ k ≤ N ∧ RM wr x N S T (flushA S T A (ltB (lineB a m) k)) ∧ Turn x.F w wr
/-- Is a byte of those before i in the cell's line? -/
def inB (a k i : Nat) : Bool := decide (a < i ∧ a / 64 ≤ k / 8 ∧ k / 8 ≤ (i - 1) / 64)
theorem inB_step {a k i qi qk : Nat} (hi : a ≤ i) (h1 : qi = i / 64) (h2 : qk = k / 8) : inB a k (i + 1) = (inB a k i || decide (qi = qk)) := by
  unfold inB
  rw [← Bool.decide_or]
  congr 1; apply propext; omega
theorem inB_end (a m k : Nat) : inB a k (a + m) = lineB a m k := by
  unfold inB lineB
  congr 1; apply propext; omega
theorem inB_start (a k : Nat) : inB a k a = false := by unfold inB; exact decide_eq_false (by omega)
def InInv (wq wr : World) (a m k : Nat) (b t : Value) : Prop := ∃ i : Nat, t = .int .i64 (i : Int) ∧ a ≤ i ∧ i ≤ a + m ∧ b = .bool (inB a k i) ∧ wr = wq
theorem wrapAMn {a m N : Nat} (h : a + m ≤ 8 * N) (h' : N ≤ 131072) : wrap64 ((a : Int) + (m : Int)) = ((a + m : Nat) : Int) := by rw [IntWalk.wrap64_in _ (by omega)]; simp
theorem flush_step {S T : List UInt8} {A : List Bool} {B : Nat → Bool} {k : Nat} (hk : k < A.length) (hB : B k = true) (hd : dirtyB S T k = true) : (flushA S T A (ltB B k)).set k true = flushA S T A (ltB B (k + 1)) := by
  rw [flushA_set S T A _ k hk hd]
  refine flushA_congr S T A fun j _ _ => ?_
  simp only [ltB]
  by_cases e : j = k
  · subst e; simp [hB]
  · rw [decide_eq_false e, Bool.or_false]; congr 1; simp; omega
theorem flush_skip {S T : List UInt8} {A : List Bool} {B : Nat → Bool} {k : Nat} (h : (B k && dirtyB S T k) = false) : flushA S T A (ltB B k) = flushA S T A (ltB B (k + 1)) := by
  refine flushA_congr S T A fun j _ hj => ?_
  simp only [ltB]
  by_cases e : j = k
  · subst e; rw [hj, Bool.and_true] at h; rw [h]; rfl
  · congr 1; simp; omega

set_option maxHeartbeats 4000000 in
set_option maxRecDepth 8000 in
theorem rm_flush {w : World} {x : MB} {N : Nat} {S T : List UInt8} {A : List Bool} (h : RM w x N S T A) (a m : Nat) (hA : a + m ≤ 8 * N) :
    Calls Try.prog 69 #[.pointer (some ⟨x.p, 0, none⟩), .int .i64 (a : Nat), .int .i64 (m : Nat)] w fun e w' => e = .returned (.int .i64 0) ∧ RM w' x N S T (flushA S T A (lineB a m)) ∧ Turn x.F w w' := by
  have hw := rm_within h (a : Int) (m : Int)
  rw [inW_iff.2 ⟨by omega, by omega, by omega⟩] at hw
  have HW := Lib.hid hw
  have HB := Lib.hid h.bound.2.2
  have HLA := Lib.hid h.lenA
  have e1 := wrapAMn hA h.bound.2.2
  obtain ⟨d, hd⟩ : ∃ d, d = a + m := ⟨_, rfl⟩
  rw [← hd] at e1
  have had : a ≤ d := by clear e1; omega
  have HD8 := Lib.hid (show d ≤ 8 * N by rw [hd]; exact hA)
  have HD := Lib.hid hd
  have H0 := Lib.hid (show RM w x N S T (flushA S T A (ltB (lineB a m) 0)) by rw [flushA_none S T A (B := ltB (lineB a m) 0) (fun k => by simp [ltB])]; exact h)
  clear hw h hA hd
  go_enter Try.func69, Try.ntmps69
  go_wp2_with fail
  refine HW.out.mono ?_
  rintro e w1 ⟨rfl, rfl⟩
  clear HW
  go_wp2_with fail
  go_loopw [8] (fun t wr => RFlushInv w wr x N S T A a m t) (fun t _ => N - (intOf t).toNat)
  case atStart => exact ⟨0, rfl, Nat.zero_le _, H0.out, Turn.refl _ _⟩
  case round =>
    obtain ⟨k, rfl, hk, hP, ht⟩ := hrel
    obtain ⟨L, cs, ct, ca, HLL, -, -, hca, -, -, c2, l0⟩ := hP.look
    have HP := Lib.hid hP
    clear hP
    by_cases hlt : k < N
    · have e5 := wrapS hlt (Nat.le_trans HB.out (by decide))
      obtain ⟨qk, hqk⟩ : ∃ qk, qk = k / 8 := ⟨_, rfl⟩
      have f1 := tdiv8 hqk
      have f2 := wrap_small (q := qk) (by have := HB.out; clear f1 e1 e5; omega)
      have HQK := Lib.hid hqk
      clear hqk
      go_wp2_with fail
      go_loopw [9, 10] (fun b t wq => InInv wr wq a m k b t) (fun _ t _ => d - (intOf t).toNat)
      case atStart => exact ⟨a, rfl, Nat.le_refl _, Nat.le_add_right _ _, by rw [inB_start], rfl⟩
      case round =>
        obtain ⟨i, rfl, hi1, hi2, rfl, rfl⟩ := hrel
        rw [← HD.out] at hi2
        by_cases hlt2 : i < d
        · obtain ⟨qi, hqi⟩ : ∃ qi, qi = i / 64 := ⟨_, rfl⟩
          have g1 := tdiv64 hqi
          have g2 := wrap_small (q := qi) (by have := HB.out; have := HD8.out; clear f1 f2 e1 e5 g1; omega)
          have HST := Lib.hid (inB_step (k := k) hi1 hqi HQK.out)
          have g5 := wrapS hlt2 (Nat.le_trans HD8.out (Nat.mul_le_mul_left 8 HB.out))
          have X : ∀ b, b = .bool (inB a k (i + 1)) → InInv wr wr a m k b (.int .i64 ((i : Int) + 1)) := fun b hb => ⟨i + 1, by simp, Nat.le_succ_of_le hi1, by rw [← HD.out]; exact hlt2, hb, rfl⟩
          have HX := Lib.hid X
          clear X hqi
          cases hb : inB a k i with
          | true =>
            have HE := Lib.hid (show Value.bool true = .bool (inB a k (i + 1)) by rw [HST.out, hb]; rfl)
            clear hb
            go_wp2_with fail
            go_roundw
            case rel => (try rw [g5]); first | exact HX.out _ HE.out | ((repeat apply Exists.intro); exact HX.out _ HE.out) | ((repeat apply Exists.intro); refine ⟨HX.out _ HE.out, ?_⟩; rfl)
            case measure => first | exact meas hlt2 | exact measW hlt2 g5
          | false =>
            by_cases hq : qi = qk
            · have HE := Lib.hid (show Value.bool true = .bool (inB a k (i + 1)) by rw [HST.out, hb, decide_eq_true hq]; rfl)
              have g6 : ((qi : Int) == (qk : Int)) = true := by rw [hq]; simp
              clear hb hq
              go_wp2_with fail
              go_roundw
              case rel => (try rw [g5]); first | exact HX.out _ HE.out | ((repeat apply Exists.intro); exact HX.out _ HE.out) | ((repeat apply Exists.intro); refine ⟨HX.out _ HE.out, ?_⟩; rfl)
              case measure => first | exact meas hlt2 | exact measW hlt2 g5
            · have HE := Lib.hid (show Value.bool false = .bool (inB a k (i + 1)) by rw [HST.out, hb, decide_eq_false hq]; rfl)
              have g6 : ((qi : Int) == (qk : Int)) = false := by rw [beq_eq_false_iff_ne]; clear g1 g2 g5 f1 f2 e1 e5; omega
              have g7 : (qi == qk) = false := by rw [beq_eq_false_iff_ne]; exact hq
              clear hb hq
              go_wp2_with fail
              go_roundw
              case rel => (try rw [g5]); first | exact HX.out _ HE.out | ((repeat apply Exists.intro); exact HX.out _ HE.out) | ((repeat apply Exists.intro); refine ⟨HX.out _ HE.out, ?_⟩; rfl)
              case measure => first | exact meas hlt2 | exact measW hlt2 g5
        · obtain rfl : i = d := by clear f1 f2 e1 e5; omega
          have HE := Lib.hid (show inB a k i = lineB a m k by rw [HD.out]; exact inB_end a m k)
          have hkA : k < A.length := by rw [HLA.out]; exact hlt
          have HKA := Lib.hid hkA
          clear hkA
          cases hb : inB a k i with
          | false =>
            have X : RFlushInv w wr x N S T A a m (.int .i64 ((k : Int) + 1)) := ⟨k + 1, by simp, hlt, by rw [← flush_skip (by rw [← HE.out, hb]; rfl)]; exact HP.out, ht⟩
            clear hb
            go_wp2_with fail
            go_roundw
            case rel => (try rw [e5]); first | exact X | ((repeat apply Exists.intro); exact X) | ((repeat apply Exists.intro); refine ⟨X, ?_⟩; rfl)
            case measure => first | exact meas hlt | exact measW hlt e5
          | true =>
            have HLB := Lib.hid (show lineB a m k = true by rw [← HE.out]; exact hb)
            clear hb
            go_wp2_with fail
            refine (rm_dirty1 HP.out k hlt).mono ?_
            rintro e w5 ⟨rfl, g5⟩
            have hP5 := HP.out.keep g5
            have HT5 := Lib.hid (ht.andGrow g5)
            cases hD : dirtyB S T k with
            | false =>
              have X : RFlushInv w w5 x N S T A a m (.int .i64 ((k : Int) + 1)) := ⟨k + 1, by simp, hlt, by rw [← flush_skip (by rw [hD, Bool.and_false])]; exact hP5, HT5.out⟩
              clear hD hP5 g5 c2 l0
              go_wp2_with fail
              go_roundw
              case rel => (try rw [e5]); first | exact X | ((repeat apply Exists.intro); exact X) | ((repeat apply Exists.intro); refine ⟨X, ?_⟩; rfl)
              case measure => first | exact meas hlt | exact measW hlt e5
            | true =>
              obtain ⟨L5, cs5, ct5, ca5, HLL5, -, -, hca5, -, -, d2, l5⟩ := hP5.look
              obtain ⟨a5, f5⟩ := hP5.awayAt hlt
              obtain ⟨hP6, t6⟩ := hP5.awaySet k true
              rw [flush_step HKA.out HLB.out hD] at hP6
              have X : RFlushInv w (w5.setCell ⟨x.b, k, none⟩ (.bool true)) x N S T A a m (.int .i64 ((k : Int) + 1)) := ⟨k + 1, by simp, hlt, hP6, HT5.out.and t6⟩
              clear hD hP5 hP6 t6 g5 c2 l0
              go_wp2_with fail
              go_roundw
              case rel => (try rw [e5]); first | exact X | ((repeat apply Exists.intro); exact X) | ((repeat apply Exists.intro); refine ⟨X, ?_⟩; rfl)
              case measure => first | exact meas hlt | exact measW hlt e5
    · obtain rfl : k = N := by clear e1; omega
      have HF := Lib.hid (show RM wr x k S T (flushA S T A (lineB a m)) by
        rw [← flushA_congr S T A (B := ltB (lineB a m) k) (fun j hj _ => by rw [HLA.out] at hj; simp only [ltB]; rw [decide_eq_true hj, Bool.and_true])]
        exact HP.out)
      clear HP
      go_wp2_with fail
      go_ret
      exact ⟨rfl, HF.out, ht⟩
end Go.Proofs.Ytncjfljmnkfghaa
