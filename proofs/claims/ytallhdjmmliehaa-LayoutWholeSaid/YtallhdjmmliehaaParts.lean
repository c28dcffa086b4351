/- The parts of a volume: layout.rows, layout.parts (an iterator). -/
import Derived.RangeFuncNested
import Derived.RangeFuncBound
import Derived.RangeFuncCalls
import Derived.RangeFuncLeaves
import Derived.Shelf.Abstract
import Derived.Shelf.RegionOpen
import Derived.WalkKit
import Derived.OwnWalkIn
import Derived.TacticsInMore
import Derived.LoopNIn
import Derived.LoopIn
import Derived.Lib.Hide
import Derived.Test.YtallhdjmmliehaaProg
namespace Go.Proofs.Ytallhdjmmliehaa
open Go.RowKit Go.Shelf

attribute [local go_sem] Oper.semAt_some

/-- A part: its kind, number, place and size. -/
structure Pt where
  k : Int
  n : Int
  a : Int
  s : Int
deriving DecidableEq

def encPt (x : Pt) : Value := .agg #[.int .i64 x.k, .int .i64 x.n, .int .i64 x.a, .int .i64 x.s]

def rK (j : Nat) : Int := (j : Int) + 1
def rM : Nat → Int
  | 0 => 0 | 1 => 8 | 2 => 0 | 3 => 32 | 4 => 0 | 5 => 8 | 6 => 128 | _ => 0
def rS : Nat → Int
  | 0 => 64 | 1 => 64 | 2 => 64 | 3 => 64 | 4 => 4096 | 5 => 1024 | 6 => 64 | _ => 0
def rP : Nat → Int
  | 0 => 0 | 1 => 64 | 2 => 576 | 3 => 640 | 4 => 2688 | 5 => 6784 | 6 => 14976 | _ => 23168
def mm (j : Nat) : Nat := max 1 (rM j).toNat
def partAt (j i : Nat) : Pt := ⟨rK j, if 0 < rM j then (i : Int) + 1 else 0, rP j + i * rS j, rS j⟩
def partsTo (j i : Nat) : List Pt := (List.range i).map (partAt j)
def upTo (j : Nat) : List Pt := (List.range j).flatMap fun t => partsTo t (mm t)
theorem partsTo_succ (j i : Nat) : partsTo j (i + 1) = partsTo j i ++ [partAt j i] := by simp [partsTo, List.range_succ]
theorem upTo_succ (j : Nat) : upTo (j + 1) = upTo j ++ partsTo j (mm j) := by simp [upTo, List.range_succ]
theorem upTo_len : ∀ j : Nat, j < 7 → (upTo j).length + mm j ≤ 179 := by decide
theorem len_lt {j i : Nat} (hj : j < 7) (hi : i < mm j) : (upTo j ++ partsTo j i).length < 179 := by
  have := upTo_len j hj
  simp [partsTo]; omega
theorem upTo_pre {j m : Nat} (h : j ≤ m) : upTo j <+: upTo m := by
  induction m with
  | zero => obtain rfl : j = 0 := by omega
            exact List.prefix_refl _
  | succ m ih =>
    by_cases e : j = m + 1
    · subst e; exact List.prefix_refl _
    · rw [upTo_succ]; exact (ih (by omega)).trans (List.prefix_append _ _)
theorem partsTo_pre (j : Nat) {i m : Nat} (h : i ≤ m) : partsTo j i <+: partsTo j m := by
  induction m with
  | zero => obtain rfl : i = 0 := by omega
            exact List.prefix_refl _
  | succ m ih =>
    by_cases e : i = m + 1
    · subst e; exact List.prefix_refl _
    · rw [partsTo_succ]; exact (ih (by omega)).trans (List.prefix_append _ _)
theorem pfx {j i : Nat} (hj : j < 7) (hi : i < mm j) : upTo j ++ partsTo j i ++ [partAt j i] <+: upTo 7 := by
  rw [List.append_assoc, ← partsTo_succ]
  refine List.IsPrefix.trans ?_ (upTo_pre (show j + 1 ≤ 7 by omega))
  rw [upTo_succ]
  exact (List.prefix_append_right_inj _).2 (partsTo_pre j (by omega))
theorem rP_succ : ∀ j : Nat, j < 7 → rP (j + 1) = rP j + (mm j : Int) * rS j := by decide
theorem row_bounds : ∀ j : Nat, j < 7 → 0 ≤ rM j ∧ rM j ≤ 128 ∧ 64 ≤ rS j ∧ rS j ≤ 4096 ∧ 0 ≤ rP j ∧ rP j ≤ 14976 ∧ mm j ≤ 128 ∧ 1 ≤ mm j ∧ (mm j : Int) * rS j ≤ 8192 := by decide
theorem mm_int (j : Nat) (h : 0 ≤ rM j) : (mm j : Int) = max 1 (rM j) := by simp [mm]; omega

/-- The rows as they lie in memory. -/
def RowsAt (g : Nat) (W : World) : Prop := ∀ j : Nat, j < 7 → W.cell? ⟨g, j * 3, none⟩ = some (.int .i64 (rK j)) ∧ W.cell? ⟨g, j * 3 + 1, none⟩ = some (.int .i64 (rM j)) ∧ W.cell? ⟨g, j * 3 + 2, none⟩ = some (.int .i64 (rS j))

/-- What lies in cells at or beyond block n₁ lies on. -/
def KeepsAbove (n₁ : Nat) (A B : World) : Prop := ∀ (p : Addr) (v : Value), n₁ ≤ p.block → A.cell? p = some v → B.cell? p = some v
theorem KeepsAbove.trans {n₁ : Nat} {A B C : World} (h : KeepsAbove n₁ A B) (k : KeepsAbove n₁ B C) : KeepsAbove n₁ A C := fun p v hp hc => k p v hp (h p v hp hc)
theorem KeepsAbove.refl (n₁ : Nat) (A : World) : KeepsAbove n₁ A A := fun _ _ _ h => h
theorem RowsAt.keep {g n₁ : Nat} {A B : World} (h : RowsAt g A) (hg : n₁ ≤ g) (k : KeepsAbove n₁ A B) : RowsAt g B := fun j hj => ⟨k _ _ hg (h j hj).1, k _ _ hg (h j hj).2.1, k _ _ hg (h j hj).2.2⟩
theorem KeepsAbove.alloc (n₁ : Nat) (A : World) (o : Obj) : KeepsAbove n₁ A (A.alloc o) := fun _ _ _ h => cell_kept h (World.grownBy_alloc A o none) (fun _ e => by cases e)
theorem keepsAbove_b {n₁ : Nat} (W : World) (l : Nat) (o o' : Obj) (h : W.heap[l]? = some o) (hc : o.isCells = false) : KeepsAbove n₁ W (W.putObj l o') := fun _ _ _ hp => cell_kept hp (grownBy_putObj' W l o') (fun r e => by cases e; exact ⟨_, h, hc⟩)

theorem cellNew (w : World) (vs : Array Value) (t : TypeId) (i : Nat) : (w.alloc (.cells vs t)).cell? ⟨w.heap.size, i, none⟩ = vs[i]? := by
  show (match (w.alloc (.cells vs t)).heap[w.heap.size]? with | some (.cells c _ _) => c[i]? | _ => none) = _
  rw [World.alloc_heap_new]

theorem rows_in (n : Nat) (w : World) : CallsIn Fence.wide n Try.prog 17 #[] w fun e w' => e = .returned (.slice (some ⟨w.heap.size, 0, none⟩) 7 7) ∧ RowsAt w.heap.size w' ∧ ∃ o, w' = w.alloc o := by
  refine callsIn_wide.2 ?_
  go_enter Try.func17, Try.ntmps17
  go_wp2
  go_ret
  refine ⟨rfl, ?_, _, rfl⟩
  intro j hj
  have : j = 0 ∨ j = 1 ∨ j = 2 ∨ j = 3 ∨ j = 4 ∨ j = 5 ∨ j = 6 := by omega
  rcases this with rfl | rfl | rfl | rfl | rfl | rfl | rfl <;> (simp only [cellNew]; simp [rK, rM, rS])

theorem cell_lt {W : World} {p : Addr} {v : Value} (h : W.cell? p = some v) : p.block < W.heap.size := by
  unfold World.cell? at h
  cases hk : W.heap[p.block]? with
  | none => simp [hk] at h
  | some o => exact (Array.getElem?_eq_some_iff.1 hk).1
theorem rM_one : ∀ j : Nat, j < 7 → 0 < rM j → 1 < rM j := by decide
theorem i64_wrap_small {a b : Int} (h0 : 0 ≤ a) (h1 : a + b ≤ 100000) (h2 : 64 ≤ b) (h3 : b ≤ 4096) : IntKind.i64.wrap (a + b) = a + b := by rw [IntKind.wrap_i64]; omega
theorem inner_bound {j i : Nat} {q : Int} (hj : j < 7) (hi : i ≤ mm j) (hq : q = rP j + i * rS j) : 0 ≤ q ∧ q + rS j ≤ 100000 := by
  have hb := row_bounds j hj
  have h1 : (i : Int) * rS j ≤ (mm j : Int) * rS j := Int.mul_le_mul_of_nonneg_right (by omega) (by omega)
  have h2 : 0 ≤ (i : Int) * rS j := Int.mul_nonneg (by omega) (by omega)
  omega
/-- What holds at each round of the inner loop. -/
def InnerInv (J : List Pt → World → Prop) (g B j : Nat) (rm : Int) (a c : Value) (wq : World) : Prop := ∃ (i : Nat) (q : Int), c = .int .i64 (i : Int) ∧ a = .int .i64 q ∧ i ≤ mm j ∧ Hid (q = rP j + i * rS j) ∧ RowsAt g wq ∧
  (wq.cell? ⟨B, 0, none⟩ = some (.int .i64 (rK j)) ∧ wq.cell? ⟨B, 1, none⟩ = some (.int .i64 rm) ∧ wq.cell? ⟨B, 2, none⟩ = some (.int .i64 (rS j))) ∧ J (upTo j ++ partsTo j i) wq

set_option maxRecDepth 100000 in
set_option maxHeartbeats 2000000 in
/-- layout.parts, at every loop body that keeps what lies at or beyond n₁. -/
theorem parts_in (n l n₁ : Nat) (J Jx : List Pt → World → Prop) (W : World) (hn : 1 ≤ n) (hn1 : n₁ ≤ W.heap.size) (hJ : AbidesFrom W.heap.size J)
    (hY : ∀ pre x W1, J pre W1 → pre.length < 179 → YieldAt Fence.wide (n - 1) Try.prog l #[encPt x] W1 fun e W' =>
      (e = .returned (.bool true) ∧ J (pre ++ [x]) W' ∧ KeepsAbove n₁ W1 W') ∨ (e = .returned (.bool false) ∧ Jx (pre ++ [x]) W'))
    (h0 : J [] W) :
    CallsIn Fence.wide n Try.prog 14 #[.func (.yield l) #[] #[]] W fun e W' => (∃ v, e = .returned v) ∧ ((∃ ys, ys = upTo 7 ∧ J ys W') ∨ (∃ pre, pre <+: upTo 7 ∧ Jx pre W')) := by
  have hJa : ∀ pre X o, J pre X → J pre (X.alloc o) := fun pre X o h => hJ pre X _ none h (World.grownBy_alloc X o none) (fun r e => by cases e)
  refine callsIn_of_wp Try.func14 rfl trivial ?_ rfl
  simp only [Try.ntmps14, List.size_toArray, List.length_cons, List.length_nil, Nat.reduceAdd, Nat.reduceSub, Array.replicate_succ, Array.replicate_zero, List.push_toArray, List.append_toArray, List.nil_append, List.cons_append]
  gi_wp2_with (refine ⟨trivial, ?_⟩; gi_at_call 17; refine (rows_in _ _).mono ?_; rintro e w' ⟨rfl, hR0, o, rfl⟩)
  have hnn : n₁ ≤ W.heap.size := hn1
  gi_loopw [2, 9] (fun a c wr => ∃ (j : Nat), c = .int .i64 (j : Int) ∧ a = .int .i64 (rP j) ∧ j ≤ 7 ∧ RowsAt W.heap.size wr ∧ J (upTo j) wr) (fun a c _ => 7 - (intOf c).toNat)
  case atStart => exact ⟨0, rfl, rfl, by omega, hR0, hJa _ _ _ h0⟩
  case round =>
    obtain ⟨j, rfl, rfl, hj, hR, hJ1⟩ := hrel
    by_cases hlt : j < 7
    · have hA := hR j hlt
      have z1 : decide ((j : Int) < 7) = true := decide_eq_true (by omega)
      have hA1 := hA.1
      have hA2 := hA.2.1
      have hA3 := hA.2.2
      clear hA
      have hbb := row_bounds j hlt
      have hs0 := hbb.2.2.1
      have hs1 := hbb.2.2.2.1
      have hm0 := mm_int j hbb.1
      have hmb := hbb.2.2.2.2.2.2.1
      by_cases hM : 0 < rM j
      · obtain ⟨m, hrm⟩ : ∃ m : Nat, rM j = (m : Int) := ⟨(rM j).toNat, by omega⟩
        have hm1 : 1 < (m : Int) := by have := rM_one j hlt hM; omega
        have hmm : mm j = m := by omega
        have hrm := Lib.hid hrm
        rw [hrm.out] at hA2
        clear hbb hm0 hM

        gi_wp2_with fail
        have hB : W.heap.size < wr.heap.size := cell_lt hA1
        obtain ⟨B, hBe⟩ : ∃ B, wr.heap.size = B := ⟨_, rfl⟩
        have e1 : (wr.alloc (.cells #[.int .i64 (rK j), .int .i64 (m : Int), .int .i64 (rS j)] 44)).cell? ⟨B, 0, none⟩ = some (.int .i64 (rK j)) := by rw [← hBe, cellNew]; rfl
        have e2 : (wr.alloc (.cells #[.int .i64 (rK j), .int .i64 (m : Int), .int .i64 (rS j)] 44)).cell? ⟨B, 1, none⟩ = some (.int .i64 (m : Int)) := by rw [← hBe, cellNew]; rfl
        have e3 : (wr.alloc (.cells #[.int .i64 (rK j), .int .i64 (m : Int), .int .i64 (rS j)] 44)).cell? ⟨B, 2, none⟩ = some (.int .i64 (rS j)) := by rw [← hBe, cellNew]; rfl
        have hR' := hR.keep hn1 (KeepsAbove.alloc n₁ wr (.cells #[.int .i64 (rK j), .int .i64 (m : Int), .int .i64 (rS j)] 44))
        have hJ' := hJa _ _ (.cells #[.int .i64 (rK j), .int .i64 (m : Int), .int .i64 (rS j)] 44) hJ1
        have hnB : n₁ ≤ B := by omega
        rw [hBe]
        obtain ⟨w2, hw2⟩ : ∃ w2, wr.alloc (.cells #[.int .i64 (rK j), .int .i64 (m : Int), .int .i64 (rS j)] 44) = w2 := ⟨_, rfl⟩
        rw [hw2] at e1 e2 e3 hR' hJ' ⊢
        clear hw2 hBe hB hR hJ1 hA1 hA2 hA3
        gi_loopw [2, 16] (fun a c wr => InnerInv J W.heap.size B j (m : Int) a c wr) (fun a c _ => mm j - (intOf c).toNat)
        case atStart => exact ⟨0, rP j, rfl, rfl, by omega, Lib.hid (by simp), hR', ⟨e1, e2, e3⟩, by simpa [partsTo] using hJ'⟩
        case round =>
          clear e1 e2 e3 hR' hJ'
          obtain ⟨i, q, rfl, rfl, hi, hq, hR2, ⟨f1, f2, f3⟩, hJ2⟩ := hrel
          by_cases hlt2 : i < mm j
          · have hq0 : 0 ≤ q ∧ q + rS j ≤ 100000 := inner_bound hlt hi hq.out
            have hq1 : IntKind.i64.wrap (q + rS j) = q + rS j := i64_wrap_small hq0.1 hq0.2 hs0 hs1
            have hq2 := hq0.1
            have hi2 : (i : Int) < (m : Int) := by omega
            have hx : encPt (partAt j i) = .agg #[.int .i64 (rK j), .int .i64 ((i : Int) + 1), .int .i64 q, .int .i64 (rS j)] := by
              rw [encPt, partAt, hrm.out]; simp [hq.out]; intro; omega
            obtain ⟨fn, tmps, assign, body, hy, hRd⟩ := hY (upTo j ++ partsTo j i) (partAt j i) wr hJ2 (len_lt hlt hlt2)
            rw [hx] at hy
            clear hx hq0
            gi_wp2_with fail
            refine hRd.mono ?_
            rintro e W3 (⟨rfl, hJ3, hk3⟩ | ⟨rfl, hJx3⟩)
            · have g1 := hk3 _ _ hnB f1
              have g2 := hk3 _ _ hnB f2
              have g3 := hk3 _ _ hnB f3
              have hR3 := hR2.keep hn1 hk3
              clear hk3 f1 f2 f3 hR2 hJ2 hy
              gi_wp2_with fail
              have X : InnerInv J W.heap.size B j (m : Int) (.int .i64 (q + rS j)) (.int .i64 ((i : Int) + 1)) W3 := by
                refine ⟨i + 1, q + rS j, by simp, rfl, by omega, Lib.hid ?_, hR3, ⟨g1, g2, g3⟩, ?_⟩
                · rw [hq.out]; simp [Int.add_mul]; omega
                · rw [partsTo_succ, ← List.append_assoc]; exact hJ3
              go_roundw
              case rel => first | exact X | ((repeat apply Exists.intro); exact X)
              case measure => simp [intOf]; omega
            · gi_wp2_with fail
              refine bodyPost_ret (results_none rfl _ _ _) rfl ?_
              exact ⟨⟨_, rfl⟩, .inr ⟨_, pfx hlt hlt2, hJx3⟩⟩
          · have hi3 : ¬ (i : Int) < (m : Int) := by omega
            obtain rfl : i = mm j := by omega
            have hq3 : q = rP (j + 1) := by rw [hq.out, rP_succ j hlt]
            gi_wp2_with fail
            go_roundw
            case rel => exact ⟨j + 1, by simp, by rw [hq3], by omega, hR2, by rw [upTo_succ]; exact hJ2⟩
            case measure => simp [intOf]; omega
      · have hrm : rM j = 0 := by omega
        have hmm : mm j = 1 := by omega
        have hrm := Lib.hid hrm
        rw [hrm.out] at hA2
        clear hbb hm0 hM

        gi_wp2_with fail
        have hB : W.heap.size < wr.heap.size := cell_lt hA1
        obtain ⟨B, hBe⟩ : ∃ B, wr.heap.size = B := ⟨_, rfl⟩
        have e1 : (wr.alloc (.cells #[.int .i64 (rK j), .int .i64 0, .int .i64 (rS j)] 44)).cell? ⟨B, 0, none⟩ = some (.int .i64 (rK j)) := by rw [← hBe, cellNew]; rfl
        have e2 : (wr.alloc (.cells #[.int .i64 (rK j), .int .i64 0, .int .i64 (rS j)] 44)).cell? ⟨B, 1, none⟩ = some (.int .i64 0) := by rw [← hBe, cellNew]; rfl
        have e3 : (wr.alloc (.cells #[.int .i64 (rK j), .int .i64 0, .int .i64 (rS j)] 44)).cell? ⟨B, 2, none⟩ = some (.int .i64 (rS j)) := by rw [← hBe, cellNew]; rfl
        have hR' := hR.keep hn1 (KeepsAbove.alloc n₁ wr (.cells #[.int .i64 (rK j), .int .i64 0, .int .i64 (rS j)] 44))
        have hJ' := hJa _ _ (.cells #[.int .i64 (rK j), .int .i64 0, .int .i64 (rS j)] 44) hJ1
        have hnB : n₁ ≤ B := by omega
        rw [hBe]
        obtain ⟨w2, hw2⟩ : ∃ w2, wr.alloc (.cells #[.int .i64 (rK j), .int .i64 0, .int .i64 (rS j)] 44) = w2 := ⟨_, rfl⟩
        rw [hw2] at e1 e2 e3 hR' hJ' ⊢
        clear hw2 hBe hB hR hJ1 hA1 hA2 hA3
        gi_loopw [2, 16] (fun a c wr => InnerInv J W.heap.size B j 0 a c wr) (fun a c _ => mm j - (intOf c).toNat)
        case atStart => exact ⟨0, rP j, rfl, rfl, by omega, Lib.hid (by simp), hR', ⟨e1, e2, e3⟩, by simpa [partsTo] using hJ'⟩
        case round =>
          clear e1 e2 e3 hR' hJ'
          obtain ⟨i, q, rfl, rfl, hi, hq, hR2, ⟨f1, f2, f3⟩, hJ2⟩ := hrel
          by_cases hlt2 : i < mm j
          · have hq0 : 0 ≤ q ∧ q + rS j ≤ 100000 := inner_bound hlt hi hq.out
            have hq1 : IntKind.i64.wrap (q + rS j) = q + rS j := i64_wrap_small hq0.1 hq0.2 hs0 hs1
            have hq2 := hq0.1
            have hi2 : (i : Int) < 1 := by omega
            have hx : encPt (partAt j i) = .agg #[.int .i64 (rK j), .int .i64 (0), .int .i64 q, .int .i64 (rS j)] := by
              rw [encPt, partAt, hrm.out]; simp [hq.out]
            obtain ⟨fn, tmps, assign, body, hy, hRd⟩ := hY (upTo j ++ partsTo j i) (partAt j i) wr hJ2 (len_lt hlt hlt2)
            rw [hx] at hy
            clear hx hq0
            gi_wp2_with fail
            refine hRd.mono ?_
            rintro e W3 (⟨rfl, hJ3, hk3⟩ | ⟨rfl, hJx3⟩)
            · have g1 := hk3 _ _ hnB f1
              have g2 := hk3 _ _ hnB f2
              have g3 := hk3 _ _ hnB f3
              have hR3 := hR2.keep hn1 hk3
              clear hk3 f1 f2 f3 hR2 hJ2 hy
              gi_wp2_with fail
              have X : InnerInv J W.heap.size B j 0 (.int .i64 (q + rS j)) (.int .i64 ((i : Int) + 1)) W3 := by
                refine ⟨i + 1, q + rS j, by simp, rfl, by omega, Lib.hid ?_, hR3, ⟨g1, g2, g3⟩, ?_⟩
                · rw [hq.out]; simp [Int.add_mul]; omega
                · rw [partsTo_succ, ← List.append_assoc]; exact hJ3
              go_roundw
              case rel => first | exact X | ((repeat apply Exists.intro); exact X)
              case measure => simp [intOf]; omega
            · gi_wp2_with fail
              refine bodyPost_ret (results_none rfl _ _ _) rfl ?_
              exact ⟨⟨_, rfl⟩, .inr ⟨_, pfx hlt hlt2, hJx3⟩⟩
          · have hi3 : ¬ (i : Int) < 1 := by omega
            obtain rfl : i = mm j := by omega
            have hq3 : q = rP (j + 1) := by rw [hq.out, rP_succ j hlt]
            gi_wp2_with fail
            go_roundw
            case rel => exact ⟨j + 1, by simp, by rw [hq3], by omega, hR2, by rw [upTo_succ]; exact hJ2⟩
            case measure => simp [intOf]; omega
    · obtain rfl : j = 7 := by omega
      gi_wp2
      go_end0
      exact ⟨⟨_, rfl⟩, .inl ⟨_, rfl, hJ1⟩⟩

end Go.Proofs.Ytallhdjmmliehaa
