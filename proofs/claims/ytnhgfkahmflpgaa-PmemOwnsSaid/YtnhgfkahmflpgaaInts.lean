/- Rows of ints; commonsref03.SameInts. No statement of the seat is proved here. -/
import Derived.Test.YtnhgfkahmflpgaaStd0
namespace Go.Proofs.Ytnhgfkahmflpgaa
open Go.RowKit

def ics (L : List Int) : List Value := L.map (fun n => .int .i64 n)
theorem ics_append (a b : List Int) : ics (a ++ b) = ics a ++ ics b := by simp [ics]
theorem ics_length (a : List Int) : (ics a).length = a.length * 1 := by simp [ics]
theorem ics_one (a : List Int) : ∀ u ∈ ics a, u.oneCell' = true := by
  intro u hu
  obtain ⟨r, -, rfl⟩ := List.mem_map.1 hu
  rfl
/-- A row of ints of the call's own. -/
def OI (w : World) (base : Nat) (v : Value) (L : List Int) : Prop := w.ownsRow base 3 1 v L.length (ics L)
theorem OI.nil (w : World) (base : Nat) : OI w base (.slice none 0 0) [] := World.ownsRow_nil _ _ _ _
theorem OI.alloc {w : World} {base : Nat} {v : Value} {L : List Int} (h : OI w base v L) (o : Obj) : OI (w.alloc o) base v L := World.ownsRow.alloc h o
theorem int_info : (Try.prog.info? 3).map (fun i => (i.zero, i.size, i.bytes)) = some (some (.int .i64 0), 1, 8) := by kernel_rfl
theorem wpList_appI {w : World} {ops : Array Oper} {rest : List Oper} {o : Oper} {a : Act} {Q : Exit → Act → World → Prop} (hgd : o.guard = none) (s x : Operand)
    (ho : o.op = .call { callee := .builtin .append, args := #[s, x], argTypes := #[28, 28] })
    (base : Nat) (v : Value) (L : List Int) (hs : a.eval s = v) (hown : OI w base v L)
    (B : Nat) (A : Option Addr) (c : Nat) (news : List Int) (m : Nat) (hm : m = news.length) (hx : a.eval x = .slice A m c) (hr : Rd w B A 1 news.length (ics news))
    (h63 : L.length + news.length ≤ 1000000) (hbase : base ≤ w.heap.size)
    (h : ∀ v' w', OI w' base v' (L ++ news) → Below base w w' → w.grownBy w' v.ownBlock → (v'.ownBlock = v.ownBlock ∨ v'.ownBlock = some w.heap.size) → wpList Try.prog ops Q rest (a.put o.dst v') w') : wpList Try.prog ops Q (o :: rest) a w := by
  subst hm
  obtain ⟨i0, hi, hz, h1, h2⟩ := info_parts int_info
  refine wpList_app hgd s x _ ho base 3 i0 _ 1 8 Try.underlying28 hi hz h1 h2 rfl (by omega) v L.length (ics L) hs hown B A news.length c (ics news) hx hr (ics_one news) (by unfold maxLen; omega) (by omega) hbase ?_
  intro v' w' h3 h4 h5
  exact h v' w' (by unfold OI; rw [List.length_append, ics_append]; exact h3) ((Below.refl _ _).grown h4 hbase (fun k hk => (hown.lt k hk).1)) h4 h5

theorem Rd.litV (w : World) (t : TypeId) (vs : List Value) (size n : Nat) (hn : vs.length = n * size) : Rd (w.alloc (.cells vs.toArray t)) (w.heap.size + 1) (some ⟨w.heap.size, 0, none⟩) size n vs := by
  refine ⟨hn, fun _ => ⟨_, _, rfl, by omega, fun j u hu => ?_⟩⟩
  rw [cell_of_row _ _ (0 + j) vs.toArray t (0, 0) (heap_alloc_new w _)]
  simpa using hu
theorem Grow.grown {w w' : World} (g : Grow w w') : w.grownBy w' none := ⟨g.os, g.tape, g.output, g.size, fun k hk _ => g.block k hk⟩
theorem own_none (v : Value) : v.ownBlock = none ∨ v.ownBlock ≠ none := by cases v.ownBlock <;> simp
theorem wpList_appIone {w : World} {ops : Array Oper} {rest : List Oper} {o : Oper} {a : Act} {Q : Exit → Act → World → Prop} (hgd : o.guard = none) (s x : Operand)
    (ho : o.op = .call { callee := .builtin .append, args := #[s, x], argTypes := #[28, 28] })
    (base : Nat) (u : Value) (K : List Int) (hs : a.eval s = u) (r : Int) (hx : a.eval x = .slice (some ⟨w.heap.size, 0, none⟩) 1 1) (hown : OI w base u K)
    (h63 : K.length + 1 ≤ 1000000) (hbase : base ≤ w.heap.size)
    (h : ∀ u' w', OI w' base u' (K ++ [r]) → Below base w w' → wpList Try.prog ops Q rest (a.put o.dst u') w') : wpList Try.prog ops Q (o :: rest) a (w.alloc (.cells #[.int .i64 r] 3)) := by
  refine wpList_appI hgd s x ho base u K hs (hown.alloc _) (w.heap.size + 1) (some ⟨w.heap.size, 0, none⟩) 1 [r] 1 rfl hx (Rd.litV w _ (ics [r]) 1 1 rfl) h63 (by simp; omega) ?_
  intro u' w' q1 q2 q3 q4
  exact h u' w' q1 (((Below.refl _ _).alloc hbase _).trans q2)
def RI (w : World) (A : Option Addr) (n : Nat) (K : List Int) : Prop := K.length = n ∧ Rd w w.heap.size A 1 n (ics K)
theorem RI.keep {w w' : World} {A : Option Addr} {n : Nat} {L : List Int} (h : RI w A n L) (g : Grow w w') : RI w' A n L := ⟨h.1, (Rd.below h.2 g).more g.size⟩
theorem OI.ri {w : World} {base : Nat} {v : Value} {L : List Int} (h : OI w base v L) : ∃ A c, v = .slice A L.length c ∧ L.length ≤ c ∧ RI w A L.length L := by
  obtain ⟨A, c, rfl, h1, -, -, -⟩ := own_form h
  exact ⟨A, c, rfl, h1, rfl, Rd.of_own h⟩
theorem RI.at_ {w : World} {A : Option Addr} {n : Nat} {K : List Int} (h : RI w A n K) {i : Nat} (hi : i < n) : ∃ b o r, K[i]? = some r ∧ A = some ⟨b, o, none⟩ ∧ b < w.heap.size ∧ w.cell? ⟨b, o + i, none⟩ = some (.int .i64 r) := by
  obtain ⟨hn, hl, hr⟩ := h
  obtain ⟨b, o, rfl, hb, hc⟩ := hr (by omega)
  have hi' : i < K.length := by omega
  refine ⟨b, o, K[i], by simp [hi'], rfl, hb, hc i _ (by simp [ics, hi'])⟩

set_option maxHeartbeats 1000000 in
theorem ints_same {A A' : Option Addr} {n c c' : Nat} {L : List Int} {w : World} (hx : RI w A n L) (hy : RI w A' n L) (hn : n ≤ 60000) :
    Calls Try.prog 37 #[.slice A n c, .slice A' n c'] w fun e w' => e = .returned (.bool true) ∧ ∃ k, w' = w.drewN k := by
  have k0 : ((n : Int) != (n : Int)) = false := by simp
  go_enter Try.func37, Try.ntmps37
  go_wp2_with fail
  go_loopw [5] (fun i wr => ∃ k m : Nat, k ≤ n ∧ i = .int .i64 k ∧ wr = w.drewN m) (fun i _ => n - (intOf i).toNat)
  case atStart => exact ⟨0, 0, Nat.zero_le _, rfl, rfl⟩
  case round =>
    obtain ⟨k, m, hk, rfl, rfl⟩ := hrel
    by_cases hlt : k < n
    · obtain ⟨b, o, r, hr, rfl, -, c1⟩ := hx.at_ hlt
      obtain ⟨b', o', r', hr', rfl, -, d1⟩ := hy.at_ hlt
      obtain rfl : r = r' := by rw [hr] at hr'; injection hr'
      clear hr hr'
      have hrr : (r != r) = false := by simp
      go_wp2_with fail
      go_quiet (fail)
      go_wp2_with fail
      go_roundw
      case rel => exact ⟨k + 1, _, by omega, by go_num, rfl⟩
      case measure => simp [intOf]; omega
    · go_wp2_with fail
      go_ret
      exact ⟨rfl, _, rfl⟩
end Go.Proofs.Ytnhgfkahmflpgaa
