/- pmem: Evict, Crash. pmem: Fence. pmem: Crash. commonsref03: the document's memory; Within, Load, Store. No statement of the seat is proved here. -/
import Derived.Test.YtncjfljmnkfghaaZ04
import Derived.Maps.RangeWalk
import Derived.RegionTactic
import Derived.Deep.RegionWith
import Derived.Deep.DeepCutAuto
namespace Go.Proofs.Ytncjfljmnkfghaa
open Go.RowKit

theorem evict_facts {N : Nat} (h : N ≤ 131072) (h8 : N % 8 = 0) : Int.tdiv ((N : Int) * 8) 64 = ((N / 8 : Nat) : Int) := by
  rw [show ((N : Int) * 8) = ((N * 8 : Nat) : Int) by simp, Int.tdiv_eq_ediv_of_nonneg (by omega)]; omega
theorem cell_info : (Try.prog.info? 95).map (fun i => (i.zero, i.size, i.bytes)) = some (some (.agg #[.int .u8 0, .int .u8 0, .int .u8 0, .int .u8 0, .int .u8 0, .int .u8 0, .int .u8 0, .int .u8 0]), 8, 8) := by kernel_rfl
theorem eq_nilC (w : World) (A : Option Addr) (n c : Nat) : (binOp .eql 79 (.slice A n c) (.slice none 0 0)).run Try.prog w = .ok (.bool A.isNone) w :=
  Lib.run_eql_slice_nil w 79 95 A n c 0 0 Try.underlying79
theorem clone_cells {w : World} {g N c : Nat} {L : List UInt8} (hr : CR w g 95 8 N c (bvs L)) (hN : 8 ≤ N) (hN2 : N ≤ 131072) :
    Calls Try.prog 61 #[.slice (some ⟨g, 0, none⟩) N c] w fun e w' => ∃ g' c', e = .returned (.slice (some ⟨g', 0, none⟩) N c') ∧ CR w' g' 95 8 N c' (bvs L) ∧ w.heap.size ≤ g' ∧ Grow w w' := by
  have hq := eq_nilC
  have HN := Lib.hid hN2
  have hrd : Rd (w.alloc (.cells #[] 95)) w.heap.size (some ⟨g, 0, none⟩) 8 N (bvs L) := by
    refine ⟨hr.1, fun _ => ⟨g, 0, rfl, hr.lt, fun j u hu => ?_⟩⟩
    have := (hr.alloc (.cells #[] 95)).cell hu
    simpa using this
  have HR := Lib.hid hrd
  have HB1 := Lib.hid (show 0 + N ≤ maxLen by unfold maxLen; omega)
  have HB2 := Lib.hid (show (0 + N) * 8 ≤ 140737488355328 by omega)
  obtain ⟨i0, hi, hz, h1, h2⟩ := info_parts cell_info
  clear hrd hN2 hr
  go_enter Try.func61, Try.ntmps61
  go_wp2_with (at_builtin; refine wpList_app rfl (.tmp 5) (.tmp 6) 79 rfl w.heap.size 95 i0 _ 8 8 Try.underlying79 hi hz h1 h2 rfl (by decide) _ 0 [] rfl (World.ownsRow_made w #[] 0 (Nat.le_refl _) (by unfold maxLen; omega) rfl) w.heap.size (some ⟨g, 0, none⟩) N c (bvs L) rfl HR.out (bvs_one L) HB1.out HB2.out (by simp) ?_; intro v1 w1 hown1 hg1 hor)
  have hform := own_form hown1
  rw [Nat.zero_add, List.nil_append] at hown1
  go_ret
  obtain ⟨A', c', rfl, -, -, -, ha⟩ := hform
  rw [Nat.zero_add]
  rw [Nat.zero_add] at hown1
  have hA : A' ≠ none := by
    intro e
    subst e
    rcases hown1.2 with ⟨e1, e2⟩ | ⟨_, _, _, e1, _⟩
    · omega
    · cases e1
  cases A' with
  | none => exact absurd rfl hA
  | some a' =>
    obtain ⟨q1, q2, q3⟩ := ha a' rfl
    rw [q3] at hown1 ⊢
    exact ⟨a'.block, c', rfl, CR.of_row hown1, q1, ((Grow.refl w).alloc _).low ⟨hg1.os, hg1.tape, hg1.output, hg1.size, fun k hk => hg1.block k (by simp; omega) (fun q => by have q2 : some k = some w.heap.size := q; injection q2 with q2; omega)⟩⟩

/-- 'clear(m)'. -/
theorem SetIs.cleared {w : World} {b : Nat} {A : List Bool} (h : SetIs w b A) (ty : TypeId) : ∃ w', (Builtin.clear_ #[80] ty #[.map (some b)]).run Try.prog w = .ok (.tuple #[]) w' ∧ SetIs w' b (List.replicate A.length false) ∧ w.grownBy w' (some b) := by
  obtain ⟨D, ⟨es, clock, hb, F, hs, hD⟩, h2⟩ := h
  refine ⟨Go.ChangeMaps.setBlock w b (.map #[] clock), ?_, ⟨.map [], ⟨#[], clock, ?_, ?_, Nat.zero_le _, rfl⟩, fun kl => ?_⟩, ?_⟩
  · simp [Builtin.clear_, run_underlying Try.underlying80, MapKept.run_getObj_map hb, MapKept.run_setObj_map _ hb, Result.andThen, Go.ChangeMaps.setBlock]
  · exact Go.ChangeMaps.heap_setBlock_same hb _
  · exact ⟨by simp, Go.MapKept.stamped_empty clock, by simp⟩
  · simp [Maps.has, List.getElem?_replicate]
  · exact World.mapTurned.grown ⟨es, clock, #[], clock, hb, rfl⟩
end Go.Proofs.Ytncjfljmnkfghaa

namespace Go.Proofs.Ytncjfljmnkfghaa
open Go.RowKit Go.Maps

theorem owns_unique {w : World} {b n n' : Nat} {D D' : DataW Unit} (h : w.ownsMap Try.prog 3 (plainElem Try.prog 4) b n D) (h' : w.ownsMap Try.prog 3 (plainElem Try.prog 4) b n' D') : D = D' := by
  obtain ⟨es, clock, h1, -, -, h4⟩ := h
  obtain ⟨es', clock', h1', -, -, h4'⟩ := h'
  rw [h1] at h1'
  injection h1' with h1'
  injection h1' with e1 e2
  subst e1
  rw [h4, h4']
theorem ranges_same {w w' : World} {b r n cnt : Nat} {D : DataW Unit} {left : Lit → Bool} (h : w.ranges Try.prog 3 (plainElem Try.prog 4) b r n D left cnt) (hb : w'.heap[b]? = w.heap[b]?) (hr : w'.heap[r]? = w.heap[r]?) : w'.ranges Try.prog 3 (plainElem Try.prog 4) b r n D left cnt := by
  obtain ⟨es, clock, since, seen, c0, h1, h2, h3, h4, h5, h6⟩ := h
  exact ⟨es, clock, since, seen, c0, hb.trans h1, h2, h3, h4, hr.trans h5, h6⟩
theorem Turn.set {F : Nat → Prop} {a b : World} (h : Turn F a b) (p : Addr) (hp : F p.block) (v : Value) : Turn F a (b.setCell p v) := h.and (Turn.setCell b hp v)
theorem turn8 (w : World) (g : Nat) (o0 o1 o2 o3 o4 o5 o6 o7 : Nat) (v0 v1 v2 v3 v4 v5 v6 v7 : Value) :
    Turn (fun i => i = g) w ((((((((w.setCell ⟨g, o0, none⟩ v0).setCell ⟨g, o1, none⟩ v1).setCell ⟨g, o2, none⟩ v2).setCell ⟨g, o3, none⟩ v3).setCell ⟨g, o4, none⟩ v4).setCell ⟨g, o5, none⟩ v5).setCell ⟨g, o6, none⟩ v6).setCell ⟨g, o7, none⟩ v7).drew := by
  refine Turn.andGrow ?_ ((Grow.refl _).drew)
  exact (((((((((Turn.refl (fun i => i = g) w).set ⟨g, o0, none⟩ rfl v0).set ⟨g, o1, none⟩ rfl v1).set ⟨g, o2, none⟩ rfl v2).set ⟨g, o3, none⟩ rfl v3).set ⟨g, o4, none⟩ rfl v4).set ⟨g, o5, none⟩ rfl v5).set ⟨g, o6, none⟩ rfl v6).set ⟨g, o7, none⟩ rfl v7)

set_option maxHeartbeats 2000000 in
theorem pm_keep_r {w : World} {x : MB} {N : Nat} {S T : List UInt8} {A : List Bool} (h : PM w x N S T A) (k : Nat) (hk : k < N) {r cnt : Nat} {D : DataW Unit} {left : Lit → Bool} (hrg : w.ranges Try.prog 3 (plainElem Try.prog 4) x.b r N D left cnt) (hr : ¬ x.F r) :
    Calls Try.prog 60 #[.pointer (some ⟨x.p, 0, none⟩), .int .i64 (k : Nat)] w fun e w' => e = .returned (.tuple #[]) ∧ PM w' x N S (keepN S T (8 * k) 8) (A.set k false) ∧ Turn x.F w w' ∧ ∃ cnt', cnt' ≤ cnt ∧ w'.ranges Try.prog 3 (plainElem Try.prog 4) x.b r N (D.del (keyL k)) (fun z => left z && !z.sameKey (keyL k)) cnt' := by
  obtain ⟨cs, ct, hcs, hct, c0, c1, c2, l0⟩ := h.view
  have H := Lib.hid h
  have HRG := Lib.hid hrg
  have hap := h.apart
  have HNB := Lib.hid (show x.b ≠ x.gt from Ne.symm hap.2.2.2.2.2)
  have HNR := Lib.hid (show r ≠ x.gt from fun q => hr (.inr (.inr (.inl q))))
  have hb := h.bound
  have HB := Lib.hid hb.2.2
  obtain ⟨s0, -⟩ := h.seenAt (j := k * 8) (by omega)
  obtain ⟨s1, -⟩ := h.seenAt (j := k * 8 + 1) (by omega)
  obtain ⟨s2, -⟩ := h.seenAt (j := k * 8 + 2) (by omega)
  obtain ⟨s3, -⟩ := h.seenAt (j := k * 8 + 3) (by omega)
  obtain ⟨s4, -⟩ := h.seenAt (j := k * 8 + 4) (by omega)
  obtain ⟨s5, -⟩ := h.seenAt (j := k * 8 + 5) (by omega)
  obtain ⟨s6, -⟩ := h.seenAt (j := k * 8 + 6) (by omega)
  obtain ⟨s7, -⟩ := h.seenAt (j := k * 8 + 7) (by omega)
  obtain ⟨t0, f0⟩ := h.lastAt (j := k * 8) (by omega)
  obtain ⟨t1, f1⟩ := h.lastAt (j := k * 8 + 1) (by omega)
  obtain ⟨t2, f2⟩ := h.lastAt (j := k * 8 + 2) (by omega)
  obtain ⟨t3, f3⟩ := h.lastAt (j := k * 8 + 3) (by omega)
  obtain ⟨t4, f4⟩ := h.lastAt (j := k * 8 + 4) (by omega)
  obtain ⟨t5, f5⟩ := h.lastAt (j := k * 8 + 5) (by omega)
  obtain ⟨t6, f6⟩ := h.lastAt (j := k * 8 + 6) (by omega)
  obtain ⟨t7, f7⟩ := h.lastAt (j := k * 8 + 7) (by omega)
  clear h hb hrg hr hap
  go_enter Try.func60, Try.ntmps60
  go_upto_region 0 with (fail)
  go_cut [] (fun wx => (PM wx x N S (keepN S T (8 * k) 8) A ∧ Turn x.F w wx) ∧ wx.heap[x.b]? = w.heap[x.b]? ∧ wx.heap[r]? = w.heap[r]?)
  case first =>
    go_region
    go_wp2_with fail
    go_meet
    have e : keepN S T (8 * k) 8 = (((((((T.set (k * 8) (S.getD (k * 8) 0)).set (k * 8 + 1) (S.getD (k * 8 + 1) 0)).set (k * 8 + 2) (S.getD (k * 8 + 2) 0)).set (k * 8 + 3) (S.getD (k * 8 + 3) 0)).set (k * 8 + 4) (S.getD (k * 8 + 4) 0)).set (k * 8 + 5) (S.getD (k * 8 + 5) 0)).set (k * 8 + 6) (S.getD (k * 8 + 6) 0)).set (k * 8 + 7) (S.getD (k * 8 + 7) 0) := by
      rw [Nat.mul_comm 8 k]; rfl
    rw [e]
    have h0 := H.out.lastSet (k * 8) (S.getD (k * 8) 0)
    have h1 := h0.1.lastSet (k * 8 + 1) (S.getD (k * 8 + 1) 0)
    have h2 := h1.1.lastSet (k * 8 + 2) (S.getD (k * 8 + 2) 0)
    have h3 := h2.1.lastSet (k * 8 + 3) (S.getD (k * 8 + 3) 0)
    have h4 := h3.1.lastSet (k * 8 + 4) (S.getD (k * 8 + 4) 0)
    have h5 := h4.1.lastSet (k * 8 + 5) (S.getD (k * 8 + 5) 0)
    have h6 := h5.1.lastSet (k * 8 + 6) (S.getD (k * 8 + 6) 0)
    have h7 := h6.1.lastSet (k * 8 + 7) (S.getD (k * 8 + 7) 0)
    refine ⟨⟨h7.1.keep ((Grow.refl _).drew), (((((((h0.2.and h1.2).and h2.2).and h3.2).and h4.2).and h5.2).and h6.2).and h7.2).andGrow ((Grow.refl _).drew)⟩, ?_, ?_⟩
    · exact (turn8 ..).block _ (H.out.lt _ (.inr (.inr (.inr rfl)))) HNB.out
    · exact (turn8 ..).block _ HRG.out.lt HNR.out
  case rest =>
    obtain ⟨⟨h1, r1⟩, hb1, hb2⟩ := hcut
    have HR2 := Lib.hid (ranges_same HRG.out hb1 hb2)
    clear hb1 hb2 HRG
    clear c0 c1 c2 l0 s0 s1 s2 s3 s4 s5 s6 s7 t0 t1 t2 t3 t4 t5 t6 t7 f0 f1 f2 f3 f4 f5 f6 f7
    obtain ⟨cs', ct', -, -, -, -, d2, l1⟩ := h1.view
    obtain ⟨D', hD1, hD2⟩ := h1.isSet
    obtain rfl := owns_unique hD1 HR2.out.owns
    have HD2 := Lib.hid hD2
    have H1 := Lib.hid h1
    have HL := Lib.hid h1.lenA
    have HK := Lib.hid (show k < A.length by rw [h1.lenA]; exact hk)
    have HWF := Lib.hid (show (Lit.int .i64 (k : Int)).wf = true from WalkArith.wf_i64 (by have := HB.out; omega))
    clear h1 hD1 hD2
    go_wp2_with (at_delete; refine wpList_delete_ranges _ rfl (.tmp 20) (.tmp 21) 80 3 rfl 4 int_keyed' Try.underlying80 _ x.b r N _ _ _ rfl HR2.out _ (keyL k) rfl (keyOf_int_mk Try.underlying3 HWF.out) ?_; intro w2 cnt2 hrg2 hle hturn)
    have hS2 : SetIs w2 x.b (A.set k false) := ⟨_, by rw [List.length_set, HL.out]; exact hrg2.owns, has_del HD2.out HK.out⟩
    have hg2 := hturn.grown
    have h2 := H1.out.setTo hS2 (by rw [List.length_set]) hg2
    go_end0
    exact ⟨rfl, h2.1, r1.and h2.2, _, hle, hrg2⟩

theorem plainElem_bool_inv {e : TypeId} (he : Try.prog.underlying e = some .bool) {v : Value} {z : DataW Unit × List MemPlace} (h : plainElem Try.prog e v = some z) : ∃ a, v = .bool a := by
  unfold plainElem at h
  rw [he] at h
  cases v <;> simp at h
  exact ⟨_, rfl⟩
theorem sameKey_ne {k j : Nat} : (keyL j).sameKey (keyL k) = decide (j = k) := by
  by_cases e : j = k
  · subst e; rw [WideAt.sameKey_self (keyL_is j)]; simp
  · rw [decide_eq_false e]
    cases h : (keyL j).sameKey (keyL k) with
    | false => rfl
    | true => exact absurd (keyL_inj (WideAt.sameKey_eq h)) e
def fenceA (N : Nat) (left : Lit → Bool) : List Bool := (List.range N).map fun k => left (keyL k)
theorem fenceA_get (N : Nat) (left : Lit → Bool) (k : Nat) : (fenceA N left)[k]? = if k < N then some (left (keyL k)) else none := by
  unfold fenceA
  by_cases h : k < N <;> simp [h]
def fenceT (S T : List UInt8) (A : List Bool) (left : Lit → Bool) : List UInt8 := mixL S T fun k => A.getD k false && !left (keyL k)

theorem fenceT_end {S T : List UInt8} {A : List Bool} {left : Lit → Bool} (h : ∀ kl, left kl = false) : fenceT S T A left = mixL S T fun k => A.getD k false := mixL_congr S T fun k _ => by rw [h]; simp
theorem fenceA_end {N : Nat} {left : Lit → Bool} (h : ∀ kl, left kl = false) : fenceA N left = List.replicate N false := by
  apply List.ext_getElem?
  intro k
  rw [fenceA_get, List.getElem?_replicate, h]
theorem fenceT_step {S T : List UInt8} {A : List Bool} {left : Lit → Bool} {k : Nat} (hk : A[k]? = some true) : keepN S (fenceT S T A left) (8 * k) 8 = fenceT S T A fun z => left z && !z.sameKey (keyL k) := by
  unfold fenceT
  rw [mixL_keep]
  refine mixL_congr S T fun j _ => ?_
  simp only [sameKey_ne]
  by_cases e : j = k
  · subst e
    have : A.getD j false = true := by rw [List.getD_eq_getElem?_getD, hk]; rfl
    rw [this]; simp
  · simp [e]
theorem fenceA_step {N : Nat} {left : Lit → Bool} {k : Nat} : (fenceA N left).set k false = fenceA N fun z => left z && !z.sameKey (keyL k) := by
  apply List.ext_getElem?
  intro j
  rw [fenceA_get]
  simp only [sameKey_ne]
  by_cases e : k = j
  · subst e
    rw [List.getElem?_set]
    by_cases hj : k < N <;> simp [hj, fenceA]
  · rw [List.getElem?_set_ne e, fenceA_get, decide_eq_false (Ne.symm e)]
    simp

/-- What holds at each round of Fence. -/
def FenceInv (w wr : World) (x : MB) (N : Nat) (S T : List UInt8) (A : List Bool) (r : Nat) : Prop := ∃ (left : Lit → Bool) (cnt : Nat) (D : DataW Unit),
  wr.ranges Try.prog 3 (plainElem Try.prog 4) x.b r N D left cnt ∧ (∀ kl, left kl = true → ∃ k, kl = keyL k ∧ A[k]? = some true) ∧ PM wr x N S (fenceT S T A left) (fenceA N left) ∧ Turn x.F w wr

/-- What a step that brings an entry leaves. -/
structure NextF (wr w1 : World) (b r N : Nat) (D : DataW Unit) (left : Lit → Bool) (cnt cnt1 k : Nat) (A : List Bool) : Prop where
  at_ : A[k]? = some true
  here : left (keyL k) = true
  rg : w1.ranges Try.prog 3 (plainElem Try.prog 4) b r N D (fun z => left z && !z.sameKey (keyL k)) cnt1
  lt : cnt1 < cnt
  grow : wr.grownBy w1 (some r)
  size : w1.heap.size = wr.heap.size
theorem wpList_nextSet {w : World} {ops : Array Oper} {rest : List Oper} {o : Oper} {a : Act} {Q : Exit → Act → World → Prop} {A : List Bool} (hg : o.guard = none) (it : Operand) (hop : o.op = Op.next it false) (b r N : Nat) (D : DataW Unit) (left : Lit → Bool) (cnt : Nat)
    (hit : a.eval it = .pointer (some ⟨r, 0, none⟩)) (h : w.ranges Try.prog 3 (plainElem Try.prog 4) b r N D left cnt) (hleft : ∀ kl, left kl = true → ∃ k, kl = keyL k ∧ A[k]? = some true)
    (hDone : (∀ kl, left kl = false) → wpList Try.prog ops Q rest (a.put o.dst (.tuple #[.bool false])) w)
    (hMore : ∀ (k : Nat) (v : Value) (w1 : World) (cnt1 : Nat), NextF w w1 b r N D left cnt cnt1 k A → (Instr.entry (.pointer (some ⟨r, 0, none⟩))).run Try.prog w1 = .ok (.tuple #[.int .i64 (k : Int), v]) w1 → wpList Try.prog ops Q rest (a.put o.dst (.tuple #[.bool true, .int .i64 (k : Int), v])) w1) :
    wpList Try.prog ops Q (o :: rest) a w := by
  refine wpList_next_ranges _ hg it hop 3 int_keyed' (plainElem Try.prog 4) (Value.int .i64) Value.bool (fun key kl hkey => by obtain ⟨x, rfl, _⟩ := Maps.keyOf_int_inv Try.underlying3 hkey; exact ⟨x, rfl⟩) (fun v y hv => plainElem_bool_inv Try.underlying4 hv) b r N D left cnt hit h (fun _ hl => hDone hl) ?_
  intro z c kl y w1 cnt1 hkey hlk hv hat hrg1 hlt hg1 hs1 hen
  obtain ⟨z', e1, rfl, hwz⟩ := Maps.keyOf_int_inv Try.underlying3 hkey
  injection e1 with _ e1
  subst e1
  obtain ⟨k, e2, hk⟩ := hleft _ hlk
  have e3 : z = (k : Int) := by unfold keyL at e2; injection e2
  subst e3
  exact hMore k _ w1 cnt1 ⟨hk, hlk, hrg1, hlt, hg1, hs1⟩ hen

theorem pm_fence {w : World} {x : MB} {N : Nat} {S T : List UInt8} {A : List Bool} (h : PM w x N S T A) :
    Calls Try.prog 36 #[.pointer (some ⟨x.p, 0, none⟩)] w fun e w' => e = .returned (.tuple #[]) ∧ PM w' x N S (mixL S T fun k => A.getD k false) (List.replicate N false) ∧ Turn x.F w w' := by
  obtain ⟨cs, ct, hcs, hct, c0, c1, c2, l0⟩ := h.view
  obtain ⟨D, hD1, hD2⟩ := h.isSet
  have hl := h.lenA
  rw [hl] at hD1
  have H := Lib.hid h
  have HL := Lib.hid hl
  have HD := Lib.hid hD2
  have HLT := Lib.hid h.lt
  clear h hl hD2
  go_enter Try.func36, Try.ntmps36
  go_wp2_with (at_range; refine wpList_range_own _ rfl (.tmp 6) 80 rfl 3 4 int_keyed' Try.underlying80 _ x.b N D rfl hD1 ?_; intro w0 hrg0 hg0 hs0)
  go_frame
  clear c0 c1 c2 l0 hD1
  go_loopw [2] (fun _ wr => FenceInv w wr x N S T A w.heap.size) (fun _ wr => wr.rangeLeft x.b w.heap.size)
  case atStart =>
    refine ⟨_, _, _, hrg0, fun kl hk => (HD.out kl).1 hk, ?_, Turn.grown hg0 (fun j hj => by cases hj)⟩
    have hT : fenceT S T A (Maps.has D) = T := mixL_none S T fun k => by
      cases ha : A.getD k false with
      | false => rfl
      | true =>
        have : Maps.has D (keyL k) = true := (HD.out _).2 ⟨k, rfl, by rw [List.getD_eq_getElem?_getD] at ha; cases hk : A[k]? with | none => rw [hk] at ha; cases ha | some v => rw [hk] at ha; rw [show v = true from ha]⟩
        rw [this]; rfl
    have hA : fenceA N (Maps.has D) = A := by
      apply List.ext_getElem?
      intro k
      rw [fenceA_get]
      by_cases hk : k < N
      · rw [if_pos hk]
        have hk' : k < A.length := by rw [HL.out]; exact hk
        rw [List.getElem?_eq_getElem hk']
        congr 1
        cases ha : A[k] with
        | true => exact (HD.out _).2 ⟨k, rfl, by rw [List.getElem?_eq_getElem hk', ha]⟩
        | false =>
          cases hh : Maps.has D (keyL k) with
          | false => rfl
          | true =>
            obtain ⟨j, hj, hj2⟩ := (HD.out _).1 hh
            obtain rfl := keyL_inj hj
            rw [List.getElem?_eq_getElem hk', ha] at hj2
            cases hj2
      · rw [if_neg hk, List.getElem?_eq_none (by rw [HL.out]; omega)]
    rw [hT, hA]
    exact H.out.turn (F := fun _ => False) (Turn.grown hg0 (fun j hj => by cases hj)) (fun _ q => q.elim)
  case round =>
    obtain ⟨left, cnt, D1, hrg, hleft, hP, ht⟩ := hrel
    have HLF := Lib.hid hleft
    have HRG := Lib.hid hrg
    have HP := Lib.hid hP
    clear hleft hP
    go_wp2_with (at_next; refine wpList_nextSet rfl (.tmp 7) rfl x.b w.heap.size N D1 left cnt rfl HRG.out HLF.out (fun hl0 => ?_) (fun k v w1 cnt1 hN hen => ?_))
    · have hP := HP.out
      rw [fenceT_end hl0, fenceA_end hl0] at hP
      go_end0
      exact ⟨rfl, hP, ht⟩
    · have hk : k < N := by have := (List.getElem?_eq_some_iff.1 hN.at_).1; rw [HL.out] at this; exact this
      have hnr : ¬ x.F w.heap.size := fun q => by have := HLT.out _ q; omega
      have tr : Turn (fun i => i = w.heap.size) wr w1 := Turn.grown hN.grow (fun j hj => by injection hj with hj; exact hj.symm)
      refine (pm_keep_r (HP.out.turn tr (fun i q => by subst q; exact hnr)) k hk hN.rg hnr).mono ?_
      rintro e w2 ⟨rfl, hP2, t2, cnt2, hle, hrg2⟩
      rw [Maps.strike_twice] at hrg2
      rw [fenceT_step hN.at_, fenceA_step] at hP2
      have X : FenceInv w w2 x N S T A w.heap.size := ⟨_, cnt2, _, hrg2, fun kl hk => HLF.out kl (by simp at hk; exact hk.1), hP2, (ht.trans tr (fun i q => by subst q; exact .inr (Nat.le_refl _))).and t2⟩
      have M : w2.rangeLeft x.b w.heap.size < wr.rangeLeft x.b w.heap.size := by rw [hrg2.left_eq, HRG.out.left_eq]; exact Nat.lt_of_le_of_lt hle hN.lt
      go_wp2_with fail
      go_roundw
      case rel => first | exact X | ((repeat apply Exists.intro); exact X) | ((repeat apply Exists.intro); refine ⟨X, ?_⟩; rfl)
      case measure => exact M
end Go.Proofs.Ytncjfljmnkfghaa

namespace Go.Proofs.Ytncjfljmnkfghaa
open Go.RowKit

theorem and1 (p : Int) : bits .and .i64 p 1 = p % 2 := by
  have h1 : (BitVec.ofInt 64 p &&& BitVec.ofInt 64 1).toNat = (p % 2).toNat := by
    rw [BitVec.toNat_and, show (BitVec.ofInt 64 1).toNat = 1 from rfl, Nat.and_one_is_mod, BitVec.toNat_ofInt]
    omega
  have h2 : bits .and .i64 p 1 = IntKind.i64.wrap ((BitVec.ofInt 64 p &&& BitVec.ofInt 64 1).toNat : Int) := rfl
  rw [h2, h1, IntWalk.i64_in _ (by omega)]
  omega
theorem RI.turn {F : Nat → Prop} {w w' : World} {A : Option Addr} {n : Nat} {K : List Int} (h : RI w A n K) (t : Turn F w w') (hA : 0 < n → ∀ p, A = some p → ¬ F p.block) : RI w' A n K := by
  obtain ⟨h1, h2, h3⟩ := h
  refine ⟨h1, h2, fun q => ?_⟩
  obtain ⟨b, o, rfl, hb, hc⟩ := h3 q
  exact ⟨b, o, rfl, Nat.lt_of_lt_of_le hb t.size, fun j u hj => (t.cell (p := ⟨b, o + j, none⟩) hb (hA q ⟨b, o, none⟩ rfl)).trans (hc j u hj)⟩
theorem Sl.turn {F : Nat → Prop} {w w' : World} {A : Option Addr} {n : Nat} {bs : List UInt8} (h : Sl w A n bs) (t : Turn F w w') (hA : 0 < n → ∀ p, A = some p → ¬ F p.block) : Sl w' A n bs := by
  obtain ⟨h1, h2, h3, h4⟩ := h
  refine ⟨h1, h2, h3, fun q => ?_⟩
  obtain ⟨b, o, rfl, hb, hc⟩ := h4 q
  exact ⟨b, o, rfl, Nat.lt_of_lt_of_le hb t.size, fun j u hj => (t.cell (p := ⟨b, o + j, none⟩) hb (hA (by omega) ⟨b, o, none⟩ rfl)).trans (hc j u hj)⟩
theorem OI.far {w : World} {base : Nat} {v : Value} {K : List Int} (h : OI w base v K) : ∃ A c, v = .slice A K.length c ∧ K.length ≤ c ∧ RI w A K.length K ∧ ∀ p, A = some p → base ≤ p.block := by
  obtain ⟨A, c, rfl, h1, -, -, h3⟩ := own_form h
  exact ⟨A, c, rfl, h1, ⟨rfl, Rd.of_own h⟩, fun p hp => (h3 p hp).1⟩
theorem dirtyL_get {S T : List UInt8} {N i : Nat} {z : Int} (h : (dirtyL S T N)[i]? = some z) : ∃ k : Nat, z = (k : Int) ∧ k < N ∧ dirtyB S T k = true := by
  have hm := List.mem_of_getElem? h
  unfold dirtyL at hm
  obtain ⟨k, hk, rfl⟩ := List.mem_map.1 hm
  obtain ⟨h1, h2⟩ := List.mem_filter.1 hk
  exact ⟨k, rfl, by simpa using h1, h2⟩
theorem PM.seenTo {w w' : World} {x : MB} {N : Nat} {S T S' : List UInt8} {A : List Bool} (h : PM w x N S T A) {g' c' : Nat} (hg : CR w g' 95 8 N c' (bvs S')) (hn : ¬ x.F g') (hw : w' = w.setCell ⟨x.p, 0, none⟩ (.slice (some ⟨g', 0, none⟩) N c')) : PM w' ⟨x.p, g', x.gt, x.b⟩ N S' T A := by
  subst hw
  obtain ⟨cs, ct, h1, h2, h3, h4, h5, h6, h7⟩ := h
  have hk : ∀ k, k ≠ x.p → (w.setCell ⟨x.p, 0, none⟩ (.slice (some ⟨g', 0, none⟩) N c')).heap[k]? = w.heap[k]? := fun k hk => Below.heap_setCell _ _ _ _ hk
  have n1 : g' ≠ x.p := fun q => hn (.inl q)
  have n2 : g' ≠ x.gt := fun q => hn (.inr (.inr (.inl q)))
  have n3 : g' ≠ x.b := fun q => hn (.inr (.inr (.inr q)))
  exact ⟨c', ct, h1, h2, ⟨Ne.symm n1, h3.2.1, h3.2.2.1, n2, n3, h3.2.2.2.2.2⟩, h4.set 0 _, hg.same (hk _ n1), h6.same (hk _ (Ne.symm h3.2.1)), h7.kept (hk _ (Ne.symm h3.2.2.1))⟩

def CrashInv (w wr : World) (x : MB) (N : Nat) (S T : List UInt8) (pk : List Int) (t : Value) : Prop := ∃ (i : Nat) (A' : List Bool), t = .int .i64 (i : Int) ∧ i ≤ (dirtyL S T N).length ∧ PM wr x N S (mixL S T (crashB (dirtyL S T N) pk i)) A' ∧ Turn x.F w wr

set_option maxHeartbeats 2000000 in
set_option maxRecDepth 20000 in
theorem pm_crash {w : World} {x : MB} {N : Nat} {S T : List UInt8} {A : List Bool} (h : PM w x N S T A) {B : Option Addr} {m c : Nat} {pk : List Int} (hs : RI w B m pk) (hB : 0 < m → ∀ p, B = some p → ¬ x.F p.block) :
    Calls Try.prog 30 #[.pointer (some ⟨x.p, 0, none⟩), .slice B m c] w fun e w' => e = .returned (.tuple #[]) ∧ ∃ g', w.heap.size ≤ g' ∧ PM w' ⟨x.p, g', x.gt, x.b⟩ N (mixL S T (crashB (dirtyL S T N) pk (dirtyL S T N).length)) (mixL S T (crashB (dirtyL S T N) pk (dirtyL S T N).length)) (List.replicate N false) ∧ Turn x.F w w' := by
  have HB := Lib.hid h.bound
  have HLT := Lib.hid h.lt
  have H := Lib.hid h
  have HS := Lib.hid hs
  have HBF := Lib.hid hB
  have HPL := Lib.hid hs.1
  clear h hs hB
  go_enter Try.func30, Try.ntmps30
  go_wp2_with fail
  refine (pm_dirty H.out).mono ?_
  rintro e w1 ⟨v, rfl, ho, g1⟩
  obtain ⟨D, d, rfl, hd, hR, hDF⟩ := ho.far
  have HDF := Lib.hid (show 0 < (dirtyL S T N).length → ∀ p, D = some p → ¬ x.F p.block from fun _ p hp q => by have := hDF p hp; have := HLT.out _ q; omega)
  have H1 := Lib.hid (H.out.keep g1)
  have HS1 := Lib.hid (HS.out.keep g1)
  have G1 := Lib.hid g1
  obtain ⟨ld, hld⟩ : ∃ ld, (dirtyL S T N).length = ld := ⟨_, rfl⟩
  have HLD := Lib.hid hld
  have hldN : ld ≤ N := by rw [← hld]; exact dirtyL_length S T N
  rw [hld] at hR hd HDF ⊢
  have HR := Lib.hid hR
  have HLN := Lib.hid hldN
  clear ho hR hDF hld hldN g1
  go_wp2_with fail
  go_loopw [9] (fun t wr => CrashInv w1 wr x N S T pk t) (fun t _ => ld - (intOf t).toNat)
  case atStart => exact ⟨0, A, rfl, by omega, by rw [mixL_none S T (B := crashB (dirtyL S T N) pk 0) (fun k => rfl)]; exact H1.out, Turn.refl _ _⟩
  case round =>
    obtain ⟨i, A', rfl, hi, hP, ht⟩ := hrel
    rw [HLD.out] at hi
    by_cases hlt : i < ld
    · obtain ⟨b, o, z, hz, rfl, hb, cz⟩ := (HR.out.turn ht HDF.out).at_ hlt
      obtain ⟨k, rfl, hkN, -⟩ := dirtyL_get hz
      have HZ := Lib.hid hz
      have e5 := wrapS hlt (by have := HLN.out; have := HB.out.2.2; omega)
      have HP := Lib.hid hP
      clear hP hz hb
      go_upto_region 3 with (fail)
      go_cut [31] (fun s wx => s = .bool (decide (i < m) && oddP (pk.getD i 0)) ∧ Grow wr wx)
      case first =>
        by_cases hip : i < m
        · obtain ⟨b2, o2, p, hp, rfl, hb2, cp⟩ := (HS1.out.turn ht HBF.out).at_ hip
          have hpk : pk.getD i 0 = p := by rw [List.getD_eq_getElem?_getD, hp]; rfl
          have hand := and1 p
          have z1 : decide (i < m) = true := decide_eq_true hip
          have HPK := Lib.hid hpk
          clear hp hpk hb2 e5
          go_quiet (fail)
          go_wp2_with fail
          go_meet
          exact ⟨by rw [HPK.out, z1]; unfold oddP; generalize (p % 2 != 0) = u; generalize decide (p < 0) = v; cases u <;> cases v <;> rfl, (Grow.refl _).drewN _⟩
        · have z1 : decide (i < m) = false := decide_eq_false hip
          clear e5
          go_quiet (fail)
          go_wp2_with fail
          go_meet
          exact ⟨by rw [z1]; rfl, (Grow.refl _).drewN _⟩
      case rest =>
        obtain ⟨rfl, g3⟩ := hcut
        have HP3 := Lib.hid (HP.out.keep g3)
        have HT3 := Lib.hid (ht.andGrow g3)
        clear HP ht g3 cz
        cases hq : (decide (i < m) && oddP (pk.getD i 0)) with
        | true =>
          have HQ := Lib.hid (show mixL S T (crashB (dirtyL S T N) pk (i + 1)) = keepN S (mixL S T (crashB (dirtyL S T N) pk i)) (8 * k) 8 by
            rw [Bool.and_eq_true] at hq
            rw [mixL_keep, crashB_go HZ.out (by rw [HPL.out]; exact of_decide_eq_true hq.1) hq.2])
          clear hq
          go_wp2_with fail
          refine (pm_keep HP3.out k hkN).mono ?_
          rintro e w4 ⟨rfl, hP4, t4⟩
          have X : CrashInv w1 w4 x N S T pk (.int .i64 ((i : Int) + 1)) := ⟨i + 1, _, by simp, by rw [HLD.out]; exact hlt, by rw [HQ.out]; exact hP4, HT3.out.and t4⟩
          clear hP4 t4
          go_wp2_with fail
          go_roundw
          case rel => (try rw [e5]); first | exact X | ((repeat apply Exists.intro); exact X) | ((repeat apply Exists.intro); refine ⟨X, ?_⟩; rfl)
          case measure => first | exact meas hlt | exact measW hlt e5
        | false =>
          have X : CrashInv w1 wc x N S T pk (.int .i64 ((i : Int) + 1)) := ⟨i + 1, A', by simp, by rw [HLD.out]; exact hlt, by
            rw [crashB_skip (i := i) (fun q => by rw [HPL.out] at q; rw [decide_eq_true q, Bool.true_and] at hq; exact hq)]; exact HP3.out, HT3.out⟩
          clear hq
          go_wp2_with fail
          go_roundw
          case rel => (try rw [e5]); first | exact X | ((repeat apply Exists.intro); exact X) | ((repeat apply Exists.intro); refine ⟨X, ?_⟩; rfl)
          case measure => first | exact meas hlt | exact measW hlt e5
    · obtain rfl : i = ld := by omega
      obtain ⟨cs, ct, hcs, hct, c0, c1, c2, l0⟩ := hP.view
      have hP0 := hP
      obtain ⟨cs', ct', -, -, -, h4, -, h6, -⟩ := hP0
      have c1' := h4.cell (j := 1) rfl
      rw [c1] at c1'
      obtain rfl : ct = ct' := by injection c1' with c1'; injection c1'
      have f0 := h4.frozen 0
      have HC := Lib.hid (clone_cells h6 HB.out.2.1 HB.out.2.2)
      have HP := Lib.hid hP
      clear h4 h6 c1' hP hcs hct
      go_wp2_with fail
      refine HC.out.mono ?_
      rintro e w5 ⟨g', c', rfl, hg, hg', g5⟩
      have hP5 := HP.out.keep g5
      have hgF : ¬ x.F g' := fun q => by have := HP.out.lt _ q; omega
      obtain ⟨cs2, ct2, -, -, d0, d1, d2, l2⟩ := hP5.view
      have f5 : w5.frozen? ⟨x.p, 0, none⟩ = false := by obtain ⟨_, _, _, _, _, q4, _⟩ := hP5; exact q4.frozen 0
      have hP6 := hP5.seenTo hg hgF rfl
      obtain ⟨w6, hcl, hS6, hg6⟩ := hP6.isSet.cleared 0
      obtain ⟨cs3, ct3, -, -, -, -, e2, l3⟩ := hP6.view
      have HP6 := Lib.hid hP6
      have HS6 := Lib.hid hS6
      have HG6 := Lib.hid hg6
      have HGG := Lib.hid (Nat.le_trans (G1.out.size) (Nat.le_trans ht.size hg'))
      have HT5 := Lib.hid ((ht.andGrow g5).set ⟨x.p, 0, none⟩ (.inl rfl) (.slice (some ⟨g', 0, none⟩) N c'))
      clear hP5 hP6 hS6 hg6 hg hgF hg' g5 c0 c1 c2 f0 l0
      go_wp2_with fail
      have hl' := HP6.out.lenA
      have h7 := HP6.out.setTo HS6.out (by simp) HG6.out
      rw [hl'] at h7
      go_end0
      exact ⟨rfl, g', HGG.out, by rw [HLD.out]; exact h7.1, ((Turn.grow G1.out x.F).and HT5.out).trans (Turn.grown HG6.out (F := fun i => i = x.b) (fun j hj => by injection hj with hj; exact hj.symm)) (fun i q => .inl (.inr (.inr (.inr q))))⟩
end Go.Proofs.Ytncjfljmnkfghaa

namespace Go.Proofs.Ytncjfljmnkfghaa
open Go.RowKit

def tbs (A : List Bool) : List Value := A.map Value.bool
theorem tbs_at {A : List Bool} {k : Nat} (h : k < A.length) : (tbs A)[k]? = some (.bool (A.getD k false)) := by simp [tbs, List.getD_eq_getElem?_getD, h]
/-- The document's memory of N cells: what is seen, what lasts, what is on its way. -/
def RM (w : World) (x : MB) (N : Nat) (S T : List UInt8) (A : List Bool) : Prop := ∃ cs ct ca, (N % 8 = 0 ∧ 8 ≤ N ∧ N ≤ 131072) ∧ x.apart ∧
  CR w x.p 93 3 1 1 [.slice (some ⟨x.gs, 0, none⟩) (8 * N) cs, .slice (some ⟨x.gt, 0, none⟩) (8 * N) ct, .slice (some ⟨x.b, 0, none⟩) N ca] ∧ CR w x.gs 5 1 (8 * N) cs (bvs S) ∧ CR w x.gt 5 1 (8 * N) ct (bvs T) ∧ CR w x.b 4 1 N ca (tbs A)
section
variable {w w' : World} {x : MB} {N : Nat} {S T : List UInt8} {A : List Bool}
theorem RM.turn {F : Nat → Prop} (h : RM w x N S T A) (t : Turn F w w') (hF : ∀ k, F k → ¬ x.F k) : RM w' x N S T A := by
  obtain ⟨cs, ct, ca, h1, h3, h4, h5, h6, h7⟩ := h
  exact ⟨cs, ct, ca, h1, h3, h4.turn t (fun q => hF _ q (.inl rfl)), h5.turn t (fun q => hF _ q (.inr (.inl rfl))), h6.turn t (fun q => hF _ q (.inr (.inr (.inl rfl)))), h7.turn t (fun q => hF _ q (.inr (.inr (.inr rfl))))⟩
theorem RM.keep (h : RM w x N S T A) (g : Grow w w') : RM w' x N S T A := h.turn (Turn.grow g fun _ => False) (fun _ q => q.elim)
theorem RM.lenS (h : RM w x N S T A) : S.length = 8 * N := by obtain ⟨cs, ct, ca, h1, h3, h4, h5, h6, h7⟩ := h; have := h5.1; rw [bvs_length] at this; omega
theorem RM.lenT (h : RM w x N S T A) : T.length = 8 * N := by obtain ⟨cs, ct, ca, h1, h3, h4, h5, h6, h7⟩ := h; have := h6.1; rw [bvs_length] at this; omega
theorem RM.lenA (h : RM w x N S T A) : A.length = N := by obtain ⟨cs, ct, ca, h1, h3, h4, h5, h6, h7⟩ := h; have := h7.1; simpa [tbs] using this
theorem RM.bound (h : RM w x N S T A) : N % 8 = 0 ∧ 8 ≤ N ∧ N ≤ 131072 := by obtain ⟨cs, ct, ca, h1, h3, h4, h5, h6, h7⟩ := h; exact h1
theorem RM.lt (h : RM w x N S T A) : ∀ k, x.F k → k < w.heap.size := by
  obtain ⟨cs, ct, ca, h1, h3, h4, h5, h6, h7⟩ := h
  rintro k (rfl | rfl | rfl | rfl)
  · exact h4.lt
  · exact h5.lt
  · exact h6.lt
  · exact h7.lt
theorem RM.view (h : RM w x N S T A) : ∃ cs ct ca, 8 * N ≤ cs ∧ 8 * N ≤ ct ∧ N ≤ ca ∧ w.cell? ⟨x.p, 0, none⟩ = some (.slice (some ⟨x.gs, 0, none⟩) (8 * N) cs) ∧ w.cell? ⟨x.p, 1, none⟩ = some (.slice (some ⟨x.gt, 0, none⟩) (8 * N) ct) ∧ w.cell? ⟨x.p, 2, none⟩ = some (.slice (some ⟨x.b, 0, none⟩) N ca) ∧ x.p < w.heap.size := by
  obtain ⟨cs, ct, ca, h1, h3, h4, h5, h6, h7⟩ := h
  exact ⟨cs, ct, ca, h5.2.1, h6.2.1, h7.2.1, h4.cell rfl, h4.cell rfl, h4.cell rfl, h4.lt⟩
theorem RM.look (h : RM w x N S T A) : ∃ L cs ct ca, Hid (L = 8 * N) ∧ L ≤ cs ∧ L ≤ ct ∧ N ≤ ca ∧ w.cell? ⟨x.p, 0, none⟩ = some (.slice (some ⟨x.gs, 0, none⟩) L cs) ∧ w.cell? ⟨x.p, 1, none⟩ = some (.slice (some ⟨x.gt, 0, none⟩) L ct) ∧ w.cell? ⟨x.p, 2, none⟩ = some (.slice (some ⟨x.b, 0, none⟩) N ca) ∧ x.p < w.heap.size := by
  obtain ⟨cs, ct, ca, h1, h2, h3, h4, h5, h6, h7⟩ := h.view
  exact ⟨_, cs, ct, ca, Lib.hid rfl, h1, h2, h3, h4, h5, h6, h7⟩
theorem RM.seenAt (h : RM w x N S T A) {j : Nat} (hj : j < 8 * N) : w.cell? ⟨x.gs, j, none⟩ = some (.int .u8 ((S.getD j 0).toNat : Int)) ∧ w.frozen? ⟨x.gs, j, none⟩ = false := by
  have hl := h.lenS
  obtain ⟨cs, ct, ca, h1, h3, h4, h5, h6, h7⟩ := h
  exact ⟨h5.cell (bvs_at (by omega)), h5.frozen j⟩
theorem RM.lastAt (h : RM w x N S T A) {j : Nat} (hj : j < 8 * N) : w.cell? ⟨x.gt, j, none⟩ = some (.int .u8 ((T.getD j 0).toNat : Int)) ∧ w.frozen? ⟨x.gt, j, none⟩ = false := by
  have hl := h.lenT
  obtain ⟨cs, ct, ca, h1, h3, h4, h5, h6, h7⟩ := h
  exact ⟨h6.cell (bvs_at (by omega)), h6.frozen j⟩
theorem RM.awayAt (h : RM w x N S T A) {k : Nat} (hk : k < N) : w.cell? ⟨x.b, k, none⟩ = some (.bool (A.getD k false)) ∧ w.frozen? ⟨x.b, k, none⟩ = false := by
  have hl := h.lenA
  obtain ⟨cs, ct, ca, h1, h3, h4, h5, h6, h7⟩ := h
  exact ⟨h7.cell (tbs_at (by omega)), h7.frozen k⟩
theorem RM.seenSet (h : RM w x N S T A) (j : Nat) (u : UInt8) : RM (w.setCell ⟨x.gs, j, none⟩ (.int .u8 (u.toNat : Int))) x N (S.set j u) T A ∧ Turn x.F w (w.setCell ⟨x.gs, j, none⟩ (.int .u8 (u.toNat : Int))) := by
  obtain ⟨cs, ct, ca, h1, h3, h4, h5, h6, h7⟩ := h
  have hk : ∀ k, k ≠ x.gs → (w.setCell ⟨x.gs, j, none⟩ (.int .u8 (u.toNat : Int))).heap[k]? = w.heap[k]? := fun k hk => Below.heap_setCell _ _ _ _ hk
  refine ⟨⟨cs, ct, ca, h1, h3, h4.same (hk _ h3.1), ?_, h6.same (hk _ (Ne.symm h3.2.2.2.1)), h7.same (hk _ (Ne.symm h3.2.2.2.2.1))⟩, Turn.setCell w (.inr (.inl rfl)) _⟩
  have := h5.set j (bv u)
  rwa [bvs_set] at this
theorem RM.lastSet (h : RM w x N S T A) (j : Nat) (u : UInt8) : RM (w.setCell ⟨x.gt, j, none⟩ (.int .u8 (u.toNat : Int))) x N S (T.set j u) A ∧ Turn x.F w (w.setCell ⟨x.gt, j, none⟩ (.int .u8 (u.toNat : Int))) := by
  obtain ⟨cs, ct, ca, h1, h3, h4, h5, h6, h7⟩ := h
  have hk : ∀ k, k ≠ x.gt → (w.setCell ⟨x.gt, j, none⟩ (.int .u8 (u.toNat : Int))).heap[k]? = w.heap[k]? := fun k hk => Below.heap_setCell _ _ _ _ hk
  refine ⟨⟨cs, ct, ca, h1, h3, h4.same (hk _ h3.2.1), h5.same (hk _ h3.2.2.2.1), ?_, h7.same (hk _ (Ne.symm h3.2.2.2.2.2))⟩, Turn.setCell w (.inr (.inr (.inl rfl))) _⟩
  have := h6.set j (bv u)
  rwa [bvs_set] at this
theorem RM.awaySet (h : RM w x N S T A) (j : Nat) (v : Bool) : RM (w.setCell ⟨x.b, j, none⟩ (.bool v)) x N S T (A.set j v) ∧ Turn x.F w (w.setCell ⟨x.b, j, none⟩ (.bool v)) := by
  obtain ⟨cs, ct, ca, h1, h3, h4, h5, h6, h7⟩ := h
  have hk : ∀ k, k ≠ x.b → (w.setCell ⟨x.b, j, none⟩ (.bool v)).heap[k]? = w.heap[k]? := fun k hk => Below.heap_setCell _ _ _ _ hk
  refine ⟨⟨cs, ct, ca, h1, h3, h4.same (hk _ h3.2.2.1), h5.same (hk _ h3.2.2.2.2.1), h6.same (hk _ h3.2.2.2.2.2), ?_⟩, Turn.setCell w (.inr (.inr (.inr rfl))) _⟩
  have := h7.set j (.bool v)
  rwa [show (tbs A).set j (.bool v) = tbs (A.set j v) by simp [tbs, List.map_set]] at this
end

theorem rm_within {w : World} {x : MB} {N : Nat} {S T : List UInt8} {A : List Bool} (h : RM w x N S T A) (at_ n : Int) :
    Calls Try.prog 84 #[.pointer (some ⟨x.p, 0, none⟩), .int .i64 at_, .int .i64 n] w fun e w' => e = .returned (.bool (inW (8 * N) at_ n)) ∧ w = w' := by
  obtain ⟨hb1, hb2, hb3⟩ := h.bound
  obtain ⟨cs, ct, ca, -, -, -, c0, -, -, l0⟩ := h.view
  obtain ⟨L, hL⟩ : ∃ L, L = 8 * N := ⟨_, rfl⟩
  rw [← hL] at c0 ⊢
  by_cases h1 : 0 ≤ at_
  · by_cases h2 : 0 ≤ n
    · by_cases h3 : at_ ≤ (L : Int)
      · have e1 : wrap64 ((L : Int) - at_) = (L : Int) - at_ := IntWalk.wrap64_in _ (by omega)
        have e2 : inW L at_ n = decide (n ≤ (L : Int) - at_) := by clear e1; simp only [inW]; congr 1; apply propext; omega
        have d1 : decide (0 ≤ at_) = true := decide_eq_true h1
        have d2 : decide (0 ≤ n) = true := decide_eq_true h2
        have d3 : decide (at_ ≤ (L : Int)) = true := decide_eq_true h3
        rw [e2]
        clear e2 h h1 h2 h3 hL hb3
        go_enter Try.func84, Try.ntmps84
        go_wp2_with fail
        go_ret
        exact ⟨rfl, rfl⟩
      · have e2 : inW L at_ n = false := by simp only [inW]; apply decide_eq_false; omega
        have d1 : decide (0 ≤ at_) = true := decide_eq_true h1
        have d2 : decide (0 ≤ n) = true := decide_eq_true h2
        have d3 : decide (at_ ≤ (L : Int)) = false := decide_eq_false h3
        rw [e2]
        clear e2 h h1 h2 h3 hL hb3
        go_enter Try.func84, Try.ntmps84
        go_wp2_with fail
        go_ret
        exact ⟨rfl, rfl⟩
    · have e2 : inW L at_ n = false := by simp only [inW]; apply decide_eq_false; omega
      have d1 : decide (0 ≤ at_) = true := decide_eq_true h1
      have d2 : decide (0 ≤ n) = false := decide_eq_false h2
      rw [e2]
      clear e2 h h1 h2 hL hb3
      go_enter Try.func84, Try.ntmps84
      go_wp2_with fail
      go_ret
      exact ⟨rfl, rfl⟩
  · have e2 : inW L at_ n = false := by simp only [inW]; apply decide_eq_false; omega
    have d1 : decide (0 ≤ at_) = false := decide_eq_false h1
    rw [e2]
    clear e2 h h1 hL hb3
    go_enter Try.func84, Try.ntmps84
    go_wp2_with fail
    go_ret
    exact ⟨rfl, rfl⟩
end Go.Proofs.Ytncjfljmnkfghaa
