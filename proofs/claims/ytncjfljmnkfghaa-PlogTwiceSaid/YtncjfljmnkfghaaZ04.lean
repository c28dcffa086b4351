/- pmem: keep. Rows of ints; commonsref03.SameInts. pmem: Dirty. pmem: line, Evict, Flush. No statement of the seat is proved here. -/
import Derived.Test.YtncjfljmnkfghaaZ03
import Derived.RegionTactic
import Derived.Deep.RegionWith
import Derived.Deep.DeepCutAuto
import Derived.Test.YtncjfljmnkfghaaZ02
import Derived.ChangeKeysEq
import Derived.Maps.OwnOps
namespace Go.Proofs.Ytncjfljmnkfghaa
open Go.RowKit

theorem pm_store_no {w : World} {x : MB} {N : Nat} {S T : List UInt8} {A : List Bool} (h : PM w x N S T A) (B : Option Addr) (m c : Nat) (hm : m ≤ 1073741824) (at_ : Int) (hin : inW (8 * N) at_ m = false) :
    Calls Try.prog 29 #[.pointer (some ⟨x.p, 0, none⟩), .int .i64 at_, .slice B m c] w fun e w' => e = .returned (.int .i64 1) ∧ w = w' := by
  have hw := pm_within h at_ (m : Int) (by omega) (by omega)
  rw [hin] at hw
  have HW := Lib.hid hw
  clear hw hin h hm
  go_enter Try.func29, Try.ntmps29
  go_wp2_with fail
  refine HW.out.mono ?_
  rintro e w1 ⟨rfl, rfl⟩
  go_wp2_with fail
  go_ret
  exact ⟨rfl, rfl⟩

set_option maxHeartbeats 2000000 in
theorem pm_keep {w : World} {x : MB} {N : Nat} {S T : List UInt8} {A : List Bool} (h : PM w x N S T A) (k : Nat) (hk : k < N) :
    Calls Try.prog 60 #[.pointer (some ⟨x.p, 0, none⟩), .int .i64 (k : Nat)] w fun e w' => e = .returned (.tuple #[]) ∧ PM w' x N S (keepN S T (8 * k) 8) (A.set k false) ∧ Turn x.F w w' := by
  obtain ⟨cs, ct, hcs, hct, c0, c1, c2, l0⟩ := h.view
  have H := Lib.hid h
  have hb := h.bound
  have HB := Lib.hid hb.2.2
  obtain ⟨s0, -⟩ := h.seenAt (j := k * 8) (by omega)
  obtain ⟨s1, -⟩ := h.seenAt (j := k * 8 + 1) (by omega)
  obtain ⟨s2, -⟩ := h.seenAt (j := k * 8 + 2) (by omega)
  obtain ⟨s3, -⟩ := h.seenAt (j := k * 8 + 3) (by omega)
  obtain ⟨s4, -⟩ := h.seenAt (j := k * 8 + 4) (by omega)
  obtain ⟨s5, -⟩ := h.seenAt (j := k * 8 + 5) (by omega)
  obtain ⟨s6, -⟩ := h.seenAt (j := k * 8 + 6) (by omega)
  obtain ⟨s7, -⟩ := h.seenAt (j := k * 8 + 7) (by omega)
  obtain ⟨t0, f0⟩ := h.lastAt (j := k * 8) (by omega)
  obtain ⟨t1, f1⟩ := h.lastAt (j := k * 8 + 1) (by omega)
  obtain ⟨t2, f2⟩ := h.lastAt (j := k * 8 + 2) (by omega)
  obtain ⟨t3, f3⟩ := h.lastAt (j := k * 8 + 3) (by omega)
  obtain ⟨t4, f4⟩ := h.lastAt (j := k * 8 + 4) (by omega)
  obtain ⟨t5, f5⟩ := h.lastAt (j := k * 8 + 5) (by omega)
  obtain ⟨t6, f6⟩ := h.lastAt (j := k * 8 + 6) (by omega)
  obtain ⟨t7, f7⟩ := h.lastAt (j := k * 8 + 7) (by omega)
  clear h hb
  go_enter Try.func60, Try.ntmps60
  go_upto_region 0 with (fail)
  go_cut [] (fun wx => PM wx x N S (keepN S T (8 * k) 8) A ∧ Turn x.F w wx)
  case first =>
    go_region
    go_wp2_with fail
    go_meet
    have e : keepN S T (8 * k) 8 = (((((((T.set (k * 8) (S.getD (k * 8) 0)).set (k * 8 + 1) (S.getD (k * 8 + 1) 0)).set (k * 8 + 2) (S.getD (k * 8 + 2) 0)).set (k * 8 + 3) (S.getD (k * 8 + 3) 0)).set (k * 8 + 4) (S.getD (k * 8 + 4) 0)).set (k * 8 + 5) (S.getD (k * 8 + 5) 0)).set (k * 8 + 6) (S.getD (k * 8 + 6) 0)).set (k * 8 + 7) (S.getD (k * 8 + 7) 0) := by
      rw [Nat.mul_comm 8 k]; rfl
    rw [e]
    have h0 := H.out.lastSet (k * 8) (S.getD (k * 8) 0)
    have h1 := h0.1.lastSet (k * 8 + 1) (S.getD (k * 8 + 1) 0)
    have h2 := h1.1.lastSet (k * 8 + 2) (S.getD (k * 8 + 2) 0)
    have h3 := h2.1.lastSet (k * 8 + 3) (S.getD (k * 8 + 3) 0)
    have h4 := h3.1.lastSet (k * 8 + 4) (S.getD (k * 8 + 4) 0)
    have h5 := h4.1.lastSet (k * 8 + 5) (S.getD (k * 8 + 5) 0)
    have h6 := h5.1.lastSet (k * 8 + 6) (S.getD (k * 8 + 6) 0)
    have h7 := h6.1.lastSet (k * 8 + 7) (S.getD (k * 8 + 7) 0)
    exact ⟨h7.1.keep ((Grow.refl _).drew), (((((((h0.2.and h1.2).and h2.2).and h3.2).and h4.2).and h5.2).and h6.2).and h7.2).andGrow ((Grow.refl _).drew)⟩
  case rest =>
    obtain ⟨h1, r1⟩ := hcut
    clear c0 c1 c2 l0 s0 s1 s2 s3 s4 s5 s6 s7 t0 t1 t2 t3 t4 t5 t6 t7 f0 f1 f2 f3 f4 f5 f6 f7
    obtain ⟨cs', ct', -, -, -, -, d2, l1⟩ := h1.view
    have hSet := h1.isSet
    have H1 := Lib.hid h1
    have HL := Lib.hid h1.lenA
    have HK := Lib.hid (show k < A.length by rw [h1.lenA]; exact hk)
    have HM := Lib.hid (show k ≤ 1000000 by have := HB.out; omega)
    clear h1
    go_wp2_with (at_delete; refine wpList_setDel rfl (.tmp 20) (.tmp 21) rfl rfl hSet k HK.out HM.out rfl ?_; intro w2 hS2 hg2 hz2)
    have h2 := H1.out.setTo hS2 (by rw [List.length_set]) hg2
    go_end0
    exact ⟨rfl, h2.1, r1.and h2.2⟩
end Go.Proofs.Ytncjfljmnkfghaa

namespace Go.Proofs.Ytncjfljmnkfghaa
open Go.RowKit

def ics (L : List Int) : List Value := L.map (fun n => .int .i64 n)
theorem ics_append (a b : List Int) : ics (a ++ b) = ics a ++ ics b := by simp [ics]
theorem ics_length (a : List Int) : (ics a).length = a.length * 1 := by simp [ics]
theorem ics_one (a : List Int) : ∀ u ∈ ics a, u.oneCell' = true := by
  intro u hu
  obtain ⟨r, -, rfl⟩ := List.mem_map.1 hu
  rfl
/-- A row of ints of the call's own. -/
def OI (w : World) (base : Nat) (v : Value) (L : List Int) : Prop := w.ownsRow base 3 1 v L.length (ics L)
theorem OI.nil (w : World) (base : Nat) : OI w base (.slice none 0 0) [] := World.ownsRow_nil _ _ _ _
theorem OI.alloc {w : World} {base : Nat} {v : Value} {L : List Int} (h : OI w base v L) (o : Obj) : OI (w.alloc o) base v L := World.ownsRow.alloc h o
theorem int_info : (Try.prog.info? 3).map (fun i => (i.zero, i.size, i.bytes)) = some (some (.int .i64 0), 1, 8) := by kernel_rfl
theorem wpList_appI {w : World} {ops : Array Oper} {rest : List Oper} {o : Oper} {a : Act} {Q : Exit → Act → World → Prop} (hgd : o.guard = none) (s x : Operand)
    (ho : o.op = .call { callee := .builtin .append, args := #[s, x], argTypes := #[53, 53] })
    (base : Nat) (v : Value) (L : List Int) (hs : a.eval s = v) (hown : OI w base v L)
    (B : Nat) (A : Option Addr) (c : Nat) (news : List Int) (m : Nat) (hm : m = news.length) (hx : a.eval x = .slice A m c) (hr : Rd w B A 1 news.length (ics news))
    (h63 : L.length + news.length ≤ 1000000) (hbase : base ≤ w.heap.size)
    (h : ∀ v' w', OI w' base v' (L ++ news) → Below base w w' → w.grownBy w' v.ownBlock → (v'.ownBlock = v.ownBlock ∨ v'.ownBlock = some w.heap.size) → wpList Try.prog ops Q rest (a.put o.dst v') w') : wpList Try.prog ops Q (o :: rest) a w := by
  subst hm
  obtain ⟨i0, hi, hz, h1, h2⟩ := info_parts int_info
  refine wpList_app hgd s x _ ho base 3 i0 _ 1 8 Try.underlying53 hi hz h1 h2 rfl (by omega) v L.length (ics L) hs hown B A news.length c (ics news) hx hr (ics_one news) (by unfold maxLen; omega) (by omega) hbase ?_
  intro v' w' h3 h4 h5
  exact h v' w' (by unfold OI; rw [List.length_append, ics_append]; exact h3) ((Below.refl _ _).grown h4 hbase (fun k hk => (hown.lt k hk).1)) h4 h5

theorem Rd.litV (w : World) (t : TypeId) (vs : List Value) (size n : Nat) (hn : vs.length = n * size) : Rd (w.alloc (.cells vs.toArray t)) (w.heap.size + 1) (some ⟨w.heap.size, 0, none⟩) size n vs := by
  refine ⟨hn, fun _ => ⟨_, _, rfl, by omega, fun j u hu => ?_⟩⟩
  rw [cell_of_row _ _ (0 + j) vs.toArray t (0, 0) (heap_alloc_new w _)]
  simpa using hu
theorem Grow.grown {w w' : World} (g : Grow w w') : w.grownBy w' none := ⟨g.os, g.tape, g.output, g.size, fun k hk _ => g.block k hk⟩
theorem own_none (v : Value) : v.ownBlock = none ∨ v.ownBlock ≠ none := by cases v.ownBlock <;> simp
theorem wpList_appIone {w : World} {ops : Array Oper} {rest : List Oper} {o : Oper} {a : Act} {Q : Exit → Act → World → Prop} (hgd : o.guard = none) (s x : Operand)
    (ho : o.op = .call { callee := .builtin .append, args := #[s, x], argTypes := #[53, 53] })
    (base : Nat) (u : Value) (K : List Int) (hs : a.eval s = u) (r : Int) (hx : a.eval x = .slice (some ⟨w.heap.size, 0, none⟩) 1 1) (hown : OI w base u K)
    (h63 : K.length + 1 ≤ 1000000) (hbase : base ≤ w.heap.size)
    (h : ∀ u' w', OI w' base u' (K ++ [r]) → Below base w w' → wpList Try.prog ops Q rest (a.put o.dst u') w') : wpList Try.prog ops Q (o :: rest) a (w.alloc (.cells #[.int .i64 r] 3)) := by
  refine wpList_appI hgd s x ho base u K hs (hown.alloc _) (w.heap.size + 1) (some ⟨w.heap.size, 0, none⟩) 1 [r] 1 rfl hx (Rd.litV w _ (ics [r]) 1 1 rfl) h63 (by simp; omega) ?_
  intro u' w' q1 q2 q3 q4
  exact h u' w' q1 (((Below.refl _ _).alloc hbase _).trans q2)
def RI (w : World) (A : Option Addr) (n : Nat) (K : List Int) : Prop := K.length = n ∧ Rd w w.heap.size A 1 n (ics K)
theorem RI.keep {w w' : World} {A : Option Addr} {n : Nat} {L : List Int} (h : RI w A n L) (g : Grow w w') : RI w' A n L := ⟨h.1, (Rd.below h.2 g).more g.size⟩
theorem OI.ri {w : World} {base : Nat} {v : Value} {L : List Int} (h : OI w base v L) : ∃ A c, v = .slice A L.length c ∧ L.length ≤ c ∧ RI w A L.length L := by
  obtain ⟨A, c, rfl, h1, -, -, -⟩ := own_form h
  exact ⟨A, c, rfl, h1, rfl, Rd.of_own h⟩
theorem RI.at_ {w : World} {A : Option Addr} {n : Nat} {K : List Int} (h : RI w A n K) {i : Nat} (hi : i < n) : ∃ b o r, K[i]? = some r ∧ A = some ⟨b, o, none⟩ ∧ b < w.heap.size ∧ w.cell? ⟨b, o + i, none⟩ = some (.int .i64 r) := by
  obtain ⟨hn, hl, hr⟩ := h
  obtain ⟨b, o, rfl, hb, hc⟩ := hr (by omega)
  have hi' : i < K.length := by omega
  refine ⟨b, o, K[i], by simp [hi'], rfl, hb, hc i _ (by simp [ics, hi'])⟩

end Go.Proofs.Ytncjfljmnkfghaa

namespace Go.Proofs.Ytncjfljmnkfghaa
open Go.RowKit

theorem cells_u8 : Try.prog.cellsOf 5 = 1 := by kernel_rfl
theorem eqItems_u8 (d : Nat) (w : World) (xs ys : Array Value) (is : List Nat) (X Y : Nat → Int) (hX : ∀ i, i ∈ is → (part 5 xs (i * 1)).run Try.prog w = .ok (.int .u8 (X i)) w) (hY : ∀ i, i ∈ is → (part 5 ys (i * 1)).run Try.prog w = .ok (.int .u8 (Y i)) w) :
    (Op.eqItems (d + 1) 5 1 xs ys is).run Try.prog w = .ok (is.all fun i => X i == Y i) w := by
  induction is with
  | nil => simp [Op.eqItems]
  | cons j js ih =>
    have e1 := hX j (by simp)
    have e2 := hY j (by simp)
    have e3 := ih (fun i hi => hX i (by simp [hi])) (fun i hi => hY i (by simp [hi]))
    simp only [Op.eqItems, Sem.run_bind, e1, e2, Result.andThen_ok, run_equalIn_int w d 5 .u8 .u8 (X j) (Y j) Try.underlying5]
    cases h : (X j == Y j) <;> simp [h, e3]
set_option maxRecDepth 20000 in
theorem eql8u (d : Nat) (w : World) (a0 a1 a2 a3 a4 a5 a6 a7 c0 c1 c2 c3 c4 c5 c6 c7 : Int) : (Op.equalIn (d + 2) 95 (.agg #[.int .u8 a0, .int .u8 a1, .int .u8 a2, .int .u8 a3, .int .u8 a4, .int .u8 a5, .int .u8 a6, .int .u8 a7]) (.agg #[.int .u8 c0, .int .u8 c1, .int .u8 c2, .int .u8 c3, .int .u8 c4, .int .u8 c5, .int .u8 c6, .int .u8 c7])).run Try.prog w = .ok (a0 == c0 && a1 == c1 && a2 == c2 && a3 == c3 && a4 == c4 && a5 == c5 && a6 == c6 && a7 == c7) w := by
  obtain ⟨i0, hi, hz, h1, h2⟩ := info_parts byte_info
  rw [run_equalIn_array w (d + 1) _ _ Try.underlying95 hi, cells_u8]
  rw [eqItems_u8 d w _ _ _ (fun i => [a0, a1, a2, a3, a4, a5, a6, a7].getD i 0) (fun i => [c0, c1, c2, c3, c4, c5, c6, c7].getD i 0)]
  · simp [List.range, List.range.loop, Bool.and_assoc]
  · intro i hi
    have : i = 0 ∨ i = 1 ∨ i = 2 ∨ i = 3 ∨ i = 4 ∨ i = 5 ∨ i = 6 ∨ i = 7 := by simp at hi; omega
    rcases this with rfl | rfl | rfl | rfl | rfl | rfl | rfl | rfl <;> rfl
  · intro i hi
    have : i = 0 ∨ i = 1 ∨ i = 2 ∨ i = 3 ∨ i = 4 ∨ i = 5 ∨ i = 6 ∨ i = 7 := by simp at hi; omega
    rcases this with rfl | rfl | rfl | rfl | rfl | rfl | rfl | rfl <;> rfl
/-- A byte of S, of T at a place of cell k. -/
def sb (S : List UInt8) (k j : Nat) : Int := ((S.getD (k * 8 + j) 0).toNat : Int)
theorem dirty_eq (S T : List UInt8) (k : Nat) : (!(sb S k 0 == sb T k 0 && sb S k 1 == sb T k 1 && sb S k 2 == sb T k 2 && sb S k 3 == sb T k 3 && sb S k 4 == sb T k 4 && sb S k 5 == sb T k 5 && sb S k 6 == sb T k 6 && sb S k 7 == sb T k 7)) = dirtyB S T k := by
  have e : ∀ j, (sb S k j == sb T k j) = !(S.getD (8 * k + j) 0 != T.getD (8 * k + j) 0) := by
    intro j
    unfold sb
    rw [Nat.mul_comm 8 k]
    by_cases h : S.getD (k * 8 + j) 0 = T.getD (k * 8 + j) 0
    · rw [h]; simp
    · have h2 : ¬ ((S.getD (k * 8 + j) 0).toNat : Int) = ((T.getD (k * 8 + j) 0).toNat : Int) := fun q => h (UInt8.toNat_inj.1 (by omega))
      rw [beq_false_of_ne h2]
      simp only [bne, beq_false_of_ne h, Bool.not_false, Bool.not_true]
  simp only [e]
  unfold dirtyB
  simp [List.range, List.range.loop, Bool.not_and]
  simp only [Bool.or_assoc]
theorem PM.seenBytes {w : World} {x : MB} {N : Nat} {S T : List UInt8} {A : List Bool} (h : PM w x N S T A) {k : Nat} (hk : k < N) : ∀ j, j < 8 → w.cell? ⟨x.gs, k * 8 + j, none⟩ = some (.int .u8 (sb S k j)) := fun j hj => (h.seenAt (by omega)).1
theorem PM.lastBytes {w : World} {x : MB} {N : Nat} {S T : List UInt8} {A : List Bool} (h : PM w x N S T A) {k : Nat} (hk : k < N) : ∀ j, j < 8 → w.cell? ⟨x.gt, k * 8 + j, none⟩ = some (.int .u8 (sb T k j)) := fun j hj => (h.lastAt (by omega)).1
theorem dirtyL_succ (S T : List UInt8) (k : Nat) : dirtyL S T (k + 1) = if dirtyB S T k then dirtyL S T k ++ [(k : Int)] else dirtyL S T k := by
  unfold dirtyL
  rw [List.range_succ, List.filter_append]
  by_cases h : dirtyB S T k = true
  · rw [if_pos h]; simp [h]
  · rw [if_neg h]; simp [h]
theorem dirtyL_length (S T : List UInt8) (N : Nat) : (dirtyL S T N).length ≤ N := by
  unfold dirtyL
  rw [List.length_map]
  have := List.length_filter_le (dirtyB S T) (List.range N)
  simpa using this

def DirtyInv (w wr : World) (S T : List UInt8) (N : Nat) (out t : Value) : Prop := ∃ k : Nat, t = .int .i64 (k : Int) ∧ k ≤ N ∧ OI wr w.heap.size out (dirtyL S T k) ∧ Grow w wr

set_option maxHeartbeats 2000000 in
theorem pm_dirty {w : World} {x : MB} {N : Nat} {S T : List UInt8} {A : List Bool} (h : PM w x N S T A) :
    Calls Try.prog 59 #[.pointer (some ⟨x.p, 0, none⟩)] w fun e w' => ∃ v, e = .returned v ∧ OI w' w.heap.size v (dirtyL S T N) ∧ Grow w w' := by
  have HB := Lib.hid h.bound.2.2
  obtain ⟨cs, ct, hcs, hct, c0, c1, c2, l0⟩ := h.view
  go_enter Try.func59, Try.ntmps59
  go_wp2_with fail
  go_loopw [3, 10] (fun out t wr => DirtyInv w wr S T N out t) (fun _ t _ => N - (intOf t).toNat)
  case atStart => exact ⟨0, rfl, by omega, OI.nil _ _, Grow.refl _⟩
  case round =>
    obtain ⟨k, rfl, hk, ho, G⟩ := hrel
    clear c0 c1 c2 l0
    by_cases hlt : k < N
    · obtain ⟨cs', ct', hcs', hct', d0, d1, -, l1⟩ := (h.keep G).view
      have HS := (h.keep G).seenBytes hlt
      have HT := (h.keep G).lastBytes hlt
      have s0 := HS 0 (by omega); have s1 := HS 1 (by omega); have s2 := HS 2 (by omega); have s3 := HS 3 (by omega); have s4 := HS 4 (by omega); have s5 := HS 5 (by omega); have s6 := HS 6 (by omega); have s7 := HS 7 (by omega)
      have t0 := HT 0 (by omega); have t1 := HT 1 (by omega); have t2 := HT 2 (by omega); have t3 := HT 3 (by omega); have t4 := HT 4 (by omega); have t5 := HT 5 (by omega); have t6 := HT 6 (by omega); have t7 := HT 7 (by omega)
      rw [Nat.add_zero] at s0 t0
      have hq := eql8u
      have hdq := dirty_eq S T k
      have hsz := Below.size G
      have hlen : (dirtyL S T k).length + 1 ≤ 1000000 := by have := dirtyL_length S T k; have := HB.out; omega
      have HLEN := Lib.hid hlen
      have e5 := wrapS hlt (by have := HB.out; omega)
      have HD := Lib.hid hdq
      clear HS HT hlen hdq
      go_upto_region 5 with (fail)
      go_cut [27] (fun s wx => s = .bool (dirtyB S T k) ∧ Grow wr wx)
      case first =>
        go_quiet (fail)
        go_wp2_with fail
        go_meet
        exact ⟨by rw [← HD.out]; simp only [Bool.not_and, Bool.or_assoc], (Grow.refl _).drewN _⟩
      case rest =>
        obtain ⟨rfl, g1⟩ := hcut
        have G1 := G.trans g1
        have ho1 : OI wc w.heap.size u3 (dirtyL S T k) := World.ownsRow.kept ho g1.grown (own_none _)
        have hz1 := Below.size G1
        clear d0 d1 l1 s0 s1 s2 s3 s4 s5 s6 s7 t0 t1 t2 t3 t4 t5 t6 t7 hq HD ho G g1 hsz
        have HSUC := Lib.hid (dirtyL_succ S T k)
        cases hD : dirtyB S T k with
        | true =>
          have HSU := Lib.hid (show dirtyL S T (k + 1) = dirtyL S T k ++ [(k : Int)] by rw [HSUC.out, if_pos hD])
          clear hD
          go_wp2_with (at_builtin; refine wpList_appIone rfl (.tmp 28) (.tmp 30) rfl w.heap.size _ (dirtyL S T k) rfl _ (by rfl) ho1 HLEN.out hz1 ?_; intro v2 w2 o2 g2)
          have X : DirtyInv w w2 S T N v2 (.int .i64 ((k : Int) + 1)) := ⟨k + 1, by simp, hlt, by rw [HSU.out]; exact o2, G1.low g2⟩
          go_roundw
          case rel => (try rw [e5]); first | exact X | ((repeat apply Exists.intro); exact X) | ((repeat apply Exists.intro); refine ⟨X, ?_⟩; rfl)
          case measure => first | exact meas hlt | exact measW hlt e5
        | false =>
          have X : DirtyInv w wc S T N u3 (.int .i64 ((k : Int) + 1)) := ⟨k + 1, by simp, hlt, by rw [HSUC.out, if_neg (by rw [hD]; decide)]; exact ho1, G1⟩
          clear hD
          go_wp2_with fail
          go_roundw
          case rel => (try rw [e5]); first | exact X | ((repeat apply Exists.intro); exact X) | ((repeat apply Exists.intro); refine ⟨X, ?_⟩; rfl)
          case measure => first | exact meas hlt | exact measW hlt e5
    · obtain rfl : k = N := by omega
      go_wp2_with fail
      go_ret
      exact ⟨_, rfl, ho, G⟩
end Go.Proofs.Ytncjfljmnkfghaa

namespace Go.Proofs.Ytncjfljmnkfghaa
open Go.RowKit

theorem wrapM {l N : Nat} (h : 8 * l < N) (h' : N ≤ 131072) : wrap64 ((l : Int) * 8) = (l : Int) * 8 ∧ wrap64 ((l : Int) + 1) = (l : Int) + 1 ∧ wrap64 (((l : Int) + 1) * 8) = ((l : Int) + 1) * 8 := ⟨IntWalk.wrap64_in _ (by omega), IntWalk.wrap64_in _ (by omega), IntWalk.wrap64_in _ (by omega)⟩
def LineInv (w wr : World) (x : MB) (N : Nat) (S T : List UInt8) (A : List Bool) (l : Nat) (t : Value) : Prop := ∃ k : Nat, t = .int .i64 (k : Int) ∧ 8 * l ≤ k ∧ k ≤ 8 * l + 8 ∧ PM wr x N S (mixL S T (inC (8 * l) (k - 8 * l))) (clrC A (8 * l) (k - 8 * l)) ∧ Turn x.F w wr

theorem pm_line_keep {w : World} {x : MB} {N : Nat} {S T : List UInt8} {A : List Bool} (h : PM w x N S T A) (l : Nat) (hl : 8 * l + 8 ≤ N) :
    Calls Try.prog 71 #[.pointer (some ⟨x.p, 0, none⟩), .int .i64 (l : Nat), .func (.func 60) #[.pointer (some ⟨x.p, 0, none⟩)] #[]] w fun e w' => e = .returned (.tuple #[]) ∧ PM w' x N S (mixL S T (inC (8 * l) 8)) (clrC A (8 * l) 8) ∧ Turn x.F w w' := by
  have HB := Lib.hid h.bound.2.2
  have h0 : PM w x N S (mixL S T (inC (8 * l) 0)) (clrC A (8 * l) 0) := by rw [mixL_none S T (fun k => by simp [inC])]; exact h
  have H0 := Lib.hid h0
  have hl1 : 8 * l < N := by omega
  obtain ⟨w1, w2, w3⟩ := wrapM hl1 HB.out
  clear h h0
  go_enter Try.func71, Try.ntmps71
  go_wp2_with fail
  simp only [w1]
  go_loopw [6] (fun t wr => LineInv w wr x N S T A l t) (fun t _ => 8 * l + 8 - (intOf t).toNat)
  case atStart => exact ⟨8 * l, by congr 1; omega, by omega, by omega, by rw [Nat.sub_self]; exact H0.out, Turn.refl _ _⟩
  case round =>
    obtain ⟨k, rfl, hk1, hk2, hP, ht⟩ := hrel
    by_cases hlt : k < 8 * l + 8
    · have z1 : decide ((k : Int) < ((l : Int) + 1) * 8) = true := decide_eq_true (by omega)
      have hkN : k < N := by omega
      have HP := Lib.hid hP
      have hsub : k + 1 - 8 * l = (k - 8 * l) + 1 := by omega
      have hcn : 8 * l + (k - 8 * l) = k := by omega
      have HM := Lib.hid (show keepN S (mixL S T (inC (8 * l) (k - 8 * l))) (8 * k) 8 = mixL S T (inC (8 * l) (k + 1 - 8 * l)) by rw [hsub, ← mixL_inC, hcn])
      have HC := Lib.hid (show (clrC A (8 * l) (k - 8 * l)).set k false = clrC A (8 * l) (k + 1 - 8 * l) by rw [hsub, clrC, hcn])
      have e5 := wrapS hkN (by have := HB.out; omega)
      clear hsub hcn hP
      go_wp2_with fail
      refine (pm_keep HP.out k hkN).mono ?_
      rintro e w4 ⟨rfl, hP2, t2⟩
      rw [HM.out, HC.out] at hP2
      have X : LineInv w w4 x N S T A l (.int .i64 ((k : Int) + 1)) := ⟨k + 1, by simp, Nat.le_succ_of_le hk1, hlt, hP2, ht.and t2⟩
      clear hP2 t2
      go_wp2_with fail
      go_roundw
      case rel => (try rw [e5]); first | exact X | ((repeat apply Exists.intro); exact X) | ((repeat apply Exists.intro); refine ⟨X, ?_⟩; rfl)
      case measure => first | exact meas hlt | exact measW hlt e5
    · have z1 : decide ((k : Int) < ((l : Int) + 1) * 8) = false := decide_eq_false (by omega)
      obtain rfl : k = 8 * l + 8 := by omega
      rw [Nat.add_sub_cancel_left] at hP
      have HP := Lib.hid hP
      clear hP
      go_wp2_with fail
      go_end0
      exact ⟨rfl, HP.out, ht⟩

theorem inC0 (c k : Nat) : inC c 0 k = false := by unfold inC; exact decide_eq_false (by omega)

set_option maxHeartbeats 2000000 in
theorem pm_flush1 {w : World} {x : MB} {N : Nat} {S T : List UInt8} {A : List Bool} {B : Nat → Bool} (h : PM w x N S T (flushA S T A B)) (bx : Nat) (hbx : ¬ x.F bx) (hc : w.cell? ⟨bx, 0, none⟩ = some (.pointer (some ⟨x.p, 0, none⟩))) (k : Nat) (hk : k < N) :
    Calls Try.prog 72 #[.int .i64 (k : Nat), .pointer (some ⟨bx, 0, none⟩)] w fun e w' => e = .returned (.tuple #[]) ∧ PM w' x N S T (flushA S T A fun j => B j || decide (j = k)) ∧ Turn x.F w w' := by
  have HB := Lib.hid h.bound.2.2
  obtain ⟨cs', ct', hcs', hct', d0, d1, -, l1⟩ := h.view
  have HS := h.seenBytes hk
  have HT := h.lastBytes hk
  have s0 := HS 0 (by omega); have s1 := HS 1 (by omega); have s2 := HS 2 (by omega); have s3 := HS 3 (by omega); have s4 := HS 4 (by omega); have s5 := HS 5 (by omega); have s6 := HS 6 (by omega); have s7 := HS 7 (by omega)
  have t0 := HT 0 (by omega); have t1 := HT 1 (by omega); have t2 := HT 2 (by omega); have t3 := HT 3 (by omega); have t4 := HT 4 (by omega); have t5 := HT 5 (by omega); have t6 := HT 6 (by omega); have t7 := HT 7 (by omega)
  rw [Nat.add_zero] at s0 t0
  have hq := eql8u
  have HD := Lib.hid (dirty_eq S T k)
  have H := Lib.hid h
  have HBX := Lib.hid hbx
  clear HS HT h hbx
  go_enter Try.func72, Try.ntmps72
  go_upto_region 0 with (fail)
  go_cut [17] (fun s wx => s = .bool (dirtyB S T k) ∧ Grow w wx)
  case first =>
    go_quiet (fail)
    go_wp2_with fail
    go_meet
    exact ⟨by rw [← HD.out]; simp only [Bool.not_and, Bool.or_assoc], (Grow.refl _).drewN _⟩
  case rest =>
    obtain ⟨rfl, g1⟩ := hcut
    have h1 := H.out.keep g1
    have cb := g1.cell hc
    have H1 := Lib.hid h1
    have G1 := Lib.hid g1
    clear d0 d1 l1 s0 s1 s2 s3 s4 s5 s6 s7 t0 t1 t2 t3 t4 t5 t6 t7 hq HD H g1 hc
    cases hD : dirtyB S T k with
    | true =>
      have HSET := Lib.hid (show k < A.length → (flushA S T A B).set k true = flushA S T A fun j => B j || decide (j = k) from fun q => flushA_set S T A B k q hD)
      obtain ⟨cs2, ct2, -, -, -, -, d2, l2⟩ := h1.view
      have hSet := h1.isSet
      have hla := h1.lenA
      have HK := Lib.hid (show k < (flushA S T A B).length by rw [hla]; exact hk)
      have HM := Lib.hid (show (flushA S T A B).length ≤ 1000000 by rw [hla]; have := HB.out; omega)
      have HA := Lib.hid (show k < A.length by rw [flushA_length] at hla; omega)
      clear hD h1 hla
      go_wp2_with (at_mapUpdate; refine wpList_setPut rfl (.tmp 21) (.tmp 22) (.const (.bool true)) rfl rfl hSet k HK.out HM.out rfl rfl ?_; intro w2 hS2 hg2)
      have h2 := H1.out.setTo hS2 (by rw [List.length_set]) hg2
      rw [HSET.out HA.out] at h2
      go_end0
      exact ⟨rfl, h2.1, (Turn.grow G1.out _).and h2.2⟩
    | false =>
      have HSK := Lib.hid (flushA_skip S T A B k hD)
      clear hD h1
      go_wp2_with fail
      go_end0
      exact ⟨rfl, by rw [← HSK.out]; exact H1.out, Turn.grow G1.out _⟩

def FlushInv (w wr : World) (x : MB) (N : Nat) (S T : List UInt8) (A : List Bool) (B : Nat → Bool) (l bx : Nat) (t : Value) : Prop := ∃ k : Nat, t = .int .i64 (k : Int) ∧ 8 * l ≤ k ∧ k ≤ 8 * l + 8 ∧ PM wr x N S T (flushA S T A fun j => B j || inC (8 * l) (k - 8 * l) j) ∧ Turn x.F w wr ∧ wr.cell? ⟨bx, 0, none⟩ = some (.pointer (some ⟨x.p, 0, none⟩))

theorem pm_line_flush {w : World} {x : MB} {N : Nat} {S T : List UInt8} {A : List Bool} {B : Nat → Bool} (h : PM w x N S T (flushA S T A B)) (bx : Nat) (hbx : ¬ x.F bx) (hc : w.cell? ⟨bx, 0, none⟩ = some (.pointer (some ⟨x.p, 0, none⟩))) (l : Nat) (hl : 8 * l + 8 ≤ N) :
    Calls Try.prog 71 #[.pointer (some ⟨x.p, 0, none⟩), .int .i64 (l : Nat), .func (.func 72) #[] #[.pointer (some ⟨bx, 0, none⟩)]] w fun e w' => e = .returned (.tuple #[]) ∧ PM w' x N S T (flushA S T A fun j => B j || inC (8 * l) 8 j) ∧ Turn x.F w w' := by
  have HB := Lib.hid h.bound.2.2
  have h0 : PM w x N S T (flushA S T A fun j => B j || inC (8 * l) 0 j) := by rw [flushA_congr S T A (C := B) (fun k _ _ => by simp only [inC0, Bool.or_false])]; exact h
  have H0 := Lib.hid h0
  have hl1 : 8 * l < N := by omega
  obtain ⟨w1, w2, w3⟩ := wrapM hl1 HB.out
  clear h h0
  go_enter Try.func71, Try.ntmps71
  go_wp2_with fail
  simp only [w1]
  go_loopw [6] (fun t wr => FlushInv w wr x N S T A B l bx t) (fun t _ => 8 * l + 8 - (intOf t).toNat)
  case atStart => exact ⟨8 * l, by congr 1; omega, by omega, by omega, by rw [Nat.sub_self]; exact H0.out, Turn.refl _ _, hc⟩
  case round =>
    obtain ⟨k, rfl, hk1, hk2, hP, ht, hcb⟩ := hrel
    by_cases hlt : k < 8 * l + 8
    · have z1 : decide ((k : Int) < ((l : Int) + 1) * 8) = true := decide_eq_true (by omega)
      have hkN : k < N := by omega
      have HP := Lib.hid hP
      have e5 := wrapS hkN (by have := HB.out; omega)
      have HBX := Lib.hid hbx
      have HC := Lib.hid hc
      have HCB := Lib.hid hcb
      have HBL := Lib.hid (World.block_lt_of_cell? _ _ hc)
      have HBR := Lib.hid (World.block_lt_of_cell? _ _ hcb)
      clear hP hcb
      go_wp2_with fail
      refine (pm_flush1 HP.out bx HBX.out HCB.out k hkN).mono ?_
      rintro e w4 ⟨rfl, hP2, t2⟩
      have hstep : (flushA S T A fun j => (B j || inC (8 * l) (k - 8 * l) j) || decide (j = k)) = flushA S T A fun j => B j || inC (8 * l) (k + 1 - 8 * l) j :=
        flushA_congr S T A fun j _ _ => by
          have : (inC (8 * l) (k - 8 * l) j || decide (j = k)) = inC (8 * l) (k + 1 - 8 * l) j := by
            unfold inC
            rw [← Bool.decide_or]
            congr 1; apply propext; omega
          rw [Bool.or_assoc, this]
      rw [hstep] at hP2
      have X : FlushInv w w4 x N S T A B l bx (.int .i64 ((k : Int) + 1)) := ⟨k + 1, by simp, Nat.le_succ_of_le hk1, hlt, hP2, ht.and t2, (t2.cell (p := ⟨bx, 0, none⟩) HBR.out HBX.out).trans HCB.out⟩
      clear hP2 t2 hstep
      go_wp2_with fail
      go_roundw
      case rel => (try rw [e5]); first | exact X | ((repeat apply Exists.intro); exact X) | ((repeat apply Exists.intro); refine ⟨X, ?_⟩; rfl)
      case measure => first | exact meas hlt | exact measW hlt e5
    · have z1 : decide ((k : Int) < ((l : Int) + 1) * 8) = false := decide_eq_false (by omega)
      obtain rfl : k = 8 * l + 8 := by omega
      rw [Nat.add_sub_cancel_left] at hP
      have HP := Lib.hid hP
      clear hP
      go_wp2_with fail
      go_end0
      exact ⟨rfl, HP.out, ht⟩

def FlLineInv (w wr : World) (x : MB) (N : Nat) (S T : List UInt8) (A : List Bool) (a m bx : Nat) (t : Value) : Prop := ∃ l : Nat, t = .int .i64 (l : Int) ∧ a / 64 ≤ l ∧ l ≤ (a + m - 1) / 64 + 1 ∧ (m = 0 → l = a / 64) ∧ PM wr x N S T (flushA S T A (inC (8 * (a / 64)) (8 * (l - a / 64)))) ∧ Turn x.F w wr ∧ wr.cell? ⟨bx, 0, none⟩ = some (.pointer (some ⟨x.p, 0, none⟩)) ∧ bx < wr.heap.size

theorem tdiv64 {k q : Nat} (h : q = k / 64) : Int.tdiv (k : Int) 64 = (q : Int) := by rw [Int.tdiv_eq_ediv_of_nonneg (by omega)]; omega
theorem wrapAM {a m N : Nat} (h : a + m ≤ 8 * N) (h' : N ≤ 131072) (h0 : 0 < m) : wrap64 ((a : Int) + (m : Int)) = (a : Int) + (m : Int) ∧ wrap64 ((a : Int) + (m : Int) - 1) = ((a + m - 1 : Nat) : Int) := ⟨IntWalk.wrap64_in _ (by omega), by rw [IntWalk.wrap64_in _ (by omega)]; omega⟩
theorem wrap_small {q : Nat} (h : q ≤ 8 * 131072) : wrap64 (q : Int) = (q : Int) := IntWalk.wrap64_in _ (by omega)

theorem pm_flush {w : World} {x : MB} {N : Nat} {S T : List UInt8} {A : List Bool} (h : PM w x N S T A) (a m : Nat) (hA : a + m ≤ 8 * N) :
    Calls Try.prog 35 #[.pointer (some ⟨x.p, 0, none⟩), .int .i64 (a : Nat), .int .i64 (m : Nat)] w fun e w' => e = .returned (.int .i64 0) ∧ PM w' x N S T (flushA S T A (lineB a m)) ∧ Turn x.F w w' := by
  have HB := Lib.hid h.bound.2.2
  have HB8 := Lib.hid h.bound.1
  have H := Lib.hid h
  have HLT := Lib.hid h.lt
  have h1 := h.keep ((Grow.refl w).alloc (.cells #[.pointer (some ⟨x.p, 0, none⟩)] 36))
  have HW := Lib.hid (pm_within h1 (a : Int) (m : Int) (by omega) (by have := HB.out; omega))
  have HIN := Lib.hid (show inW (8 * N) (a : Int) (m : Int) = true from inW_iff.2 ⟨by omega, by omega, by omega⟩)
  have K1 := (Blk.new w 36 [.pointer (some ⟨x.p, 0, none⟩)] _ (0, 0) rfl).c1
  obtain ⟨l0, hl0⟩ : ∃ l0, l0 = a / 64 := ⟨_, rfl⟩
  have e0 := tdiv64 hl0
  have e1 := wrap_small (q := l0) (by have := HB.out; omega)
  have HL0 := Lib.hid hl0
  have H1 := Lib.hid h1
  clear h hl0 h1
  go_enter Try.func35, Try.ntmps35
  go_wp2_with fail
  refine HW.out.mono ?_
  rintro e w1 ⟨rfl, rfl⟩
  rw [HIN.out]
  clear HW
  go_wp2_with fail
  simp only [e1]
  go_loopw [7] (fun t wr => FlLineInv w wr x N S T A a m w.heap.size t) (fun t _ => (a + m - 1) / 64 + 1 - (intOf t).toNat)
  case atStart => exact ⟨l0, rfl, by rw [HL0.out]; exact Nat.le_refl _, by have := HL0.out; clear e0 e1; omega, fun _ => HL0.out, by rw [HL0.out, Nat.sub_self, flushA_none _ _ _ (fun k => inC0 _ k)]; exact H1.out, Turn.grow ((Grow.refl w).alloc _) _, K1, by simp⟩
  case round =>
    obtain ⟨l, rfl, hl1, hl2, hm0, hP, ht, hcb, hbs⟩ := hrel
    have HP := Lib.hid hP
    clear hP e0 e1 K1
    by_cases hm : 0 < m
    · have z0 : decide (0 < (m : Int)) = true := decide_eq_true (by omega)
      obtain ⟨l1, hll⟩ : ∃ l1, l1 = (a + m - 1) / 64 := ⟨_, rfl⟩
      obtain ⟨d, hd⟩ : ∃ d, d = a + m - 1 := ⟨_, rfl⟩
      by_cases hlt : l ≤ l1
      · have z1 : decide ((l : Int) ≤ (l1 : Int)) = true := decide_eq_true (by omega)
        have hlN : 8 * l + 8 ≤ N := by have := HB8.out; omega
        have HLN := Lib.hid hlN
        have hstep : (flushA S T A fun j => inC (8 * (a / 64)) (8 * (l - a / 64)) j || inC (8 * l) 8 j) = flushA S T A (inC (8 * (a / 64)) (8 * (l + 1 - a / 64))) :=
          flushA_congr S T A fun j _ _ => by
            unfold inC
            rw [← Bool.decide_or]
            congr 1; apply propext; omega
        have HST := Lib.hid hstep
        have hbF : ¬ x.F w.heap.size := fun q => by have := HLT.out _ q; omega
        have HBF := Lib.hid hbF
        have HCB := Lib.hid hcb
        have hlt3 : l < (a + m - 1) / 64 + 1 := by omega
        have HL3 := Lib.hid (show a / 64 ≤ l + 1 from Nat.le_succ_of_le hl1)
        have e5 := wrapS (M := 8 * N) (show l < 8 * N by omega) (Nat.mul_le_mul_left 8 HB.out)
        obtain ⟨e6, e7⟩ := wrapAM hA HB.out hm
        rw [← hd] at e7
        have e8 := wrap_small (q := l1) (by have := HB.out; clear e5 e6 e7; omega)
        have e9 : Int.tdiv (d : Int) 64 = (l1 : Int) := tdiv64 (by rw [hd, hll])
        have HM0 := Lib.hid (show m = 0 → l + 1 = a / 64 from fun q => absurd hm (by rw [q]; exact Nat.lt_irrefl 0))
        clear hstep hd hll hl1 hl2 hm0 hbF hlN
        go_wp2_with fail
        refine (pm_line_flush HP.out w.heap.size HBF.out HCB.out l HLN.out).mono ?_
        rintro e w4 ⟨rfl, hP2, t2⟩
        rw [HST.out] at hP2
        have X : FlLineInv w w4 x N S T A a m w.heap.size (.int .i64 ((l : Int) + 1)) := ⟨l + 1, by simp, HL3.out, hlt3, HM0.out, hP2, ht.and t2, (t2.cell (p := ⟨w.heap.size, 0, none⟩) hbs HBF.out).trans HCB.out, Nat.lt_of_lt_of_le hbs t2.size⟩
        clear hP2 t2
        go_wp2_with fail
        go_roundw
        case rel => (try rw [e5]); first | exact X | ((repeat apply Exists.intro); exact X) | ((repeat apply Exists.intro); refine ⟨X, ?_⟩; rfl)
        case measure => first | exact meas hlt3 | exact measW hlt3 e5
      · have z1 : decide ((l : Int) ≤ (l1 : Int)) = false := decide_eq_false (by omega)
        have hfin : flushA S T A (inC (8 * (a / 64)) (8 * (l - a / 64))) = flushA S T A (lineB a m) :=
          flushA_congr S T A fun j _ _ => by
            unfold inC lineB
            congr 1; apply propext; omega
        have HF := Lib.hid hfin
        have hq := wrapAM hA HB.out hm
        rw [← hd] at hq
        obtain ⟨e6, e7⟩ := hq
        have e8 := wrap_small (q := l1) (by have := HB.out; clear e6 e7; omega)
        have e9 : Int.tdiv (d : Int) 64 = (l1 : Int) := tdiv64 (by rw [hd, hll])
        clear hfin hd hll hl1 hl2 hm0 hcb hbs
        go_wp2_with fail
        go_ret
        exact ⟨rfl, by rw [← HF.out]; exact HP.out, ht⟩
    · have z0 : decide (0 < (m : Int)) = false := decide_eq_false (by omega)
      have hfin : flushA S T A (inC (8 * (a / 64)) (8 * (l - a / 64))) = flushA S T A (lineB a m) := by
        rw [hm0 (by omega), Nat.sub_self, flushA_none S T A (fun k => inC0 _ k), flushA_none S T A (fun k => by unfold lineB; exact decide_eq_false (by omega))]
      have HF := Lib.hid hfin
      clear hfin hm0 hcb hbs hl1 hl2
      go_wp2_with fail
      go_ret
      exact ⟨rfl, by rw [← HF.out]; exact HP.out, ht⟩
end Go.Proofs.Ytncjfljmnkfghaa
