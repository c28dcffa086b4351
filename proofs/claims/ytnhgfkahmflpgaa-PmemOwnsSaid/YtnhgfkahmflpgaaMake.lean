/- Rows of noughts that a call makes. -/
import Derived.Test.YtnhgfkahmflpgaaBase
namespace Go.Proofs.Ytnhgfkahmflpgaa
open Go.RowKit

theorem bvs_replicate (n : Nat) : bvs (List.replicate n 0) = List.replicate n (.int .u8 0) := by simp [bvs, bv]

/-- 'make([]byte, n)'. -/
theorem wpList_makeB {w : World} {ops : Array Oper} {rest : List Oper} {o : Oper} {a : Act} {Q : Exit → Act → World → Prop}
    (hg : o.guard = none) (l c : Operand) (hop : o.op = Op.makeSlice 32 l c)
    (base : Nat) (L C : Int) (n : Nat) (hl : a.eval l = .int .i64 L) (hc : a.eval c = .int .i64 C) (hL : L = (n : Int)) (hC : C = (n : Int)) (hn : n ≤ 1073741824) (hb : base ≤ w.heap.size)
    (hK : ∀ w', OB w' base (.slice (some ⟨w.heap.size, 0, none⟩) n n) (List.replicate n 0) → Below base w w' → w.grownBy w' none → wpList Try.prog ops Q rest (a.put o.dst (.slice (some ⟨w.heap.size, 0, none⟩) n n)) w') :
    wpList Try.prog ops Q (o :: rest) a w := by
  obtain ⟨i0, hi, hz, h1, h2⟩ := info_parts byte_info
  refine wpList_make_full w hg l c _ hop base 5 i0 (.int .u8 0) 1 Try.underlying32 hi hz h1 .i64 .i64 L C n hl hc hL hC (by rw [h2]; omega) (by unfold maxLen; omega) hb ?_
  intro w' ho hgr
  refine hK w' ?_ ((Below.refl _ _).grown hgr hb (fun k hk => by cases hk)) hgr
  unfold OB
  rw [List.length_replicate, bvs_replicate]
  have e : (madeCells (Value.int .u8 0).cells (n * 1)).toList = List.replicate n (.int .u8 0) := by
    rw [Nat.mul_one]; exact toList_madeCells_one _ _
  rw [e] at ho
  exact ho

/-- 'make([]byte, 0, n)'. -/
theorem wpList_make0 {w : World} {ops : Array Oper} {rest : List Oper} {o : Oper} {a : Act} {Q : Exit → Act → World → Prop}
    (hg : o.guard = none) (l c : Operand) (hop : o.op = Op.makeSlice 32 l c)
    (base : Nat) (C : Int) (n : Nat) (hl : a.eval l = .int .i64 0) (hc : a.eval c = .int .i64 C) (hC : C = (n : Int)) (hn : n ≤ 1073741824) (hb : base ≤ w.heap.size)
    (hK : ∀ w', OB w' base (.slice (some ⟨w.heap.size, 0, none⟩) 0 n) [] → Below base w w' → w.grownBy w' none → wpList Try.prog ops Q rest (a.put o.dst (.slice (some ⟨w.heap.size, 0, none⟩) 0 n)) w') :
    wpList Try.prog ops Q (o :: rest) a w := by
  obtain ⟨i0, hi, hz, h1, h2⟩ := info_parts byte_info
  refine wpList_make_own w hg l c _ hop base 5 i0 (.int .u8 0) 1 Try.underlying32 hi hz h1 .i64 .i64 C n hl hc hC (by rw [h2]; omega) (by unfold maxLen; omega) hb ?_
  intro w' ho hgr
  exact hK w' ho ((Below.refl _ _).grown hgr hb (fun k hk => by cases hk)) hgr

end Go.Proofs.Ytnhgfkahmflpgaa
