/- pmem: Store, keep. pmem: keep. Rows of ints; commonsref03.SameInts. pmem: Dirty. No statement of the seat is proved here. -/
import Derived.Test.YtncjfljmnkfghaaZ03
import Derived.RegionTactic
import Derived.Deep.RegionWith
import Derived.Deep.DeepCutAuto
import Derived.Test.YtncjfljmnkfghaaZ02
import Derived.ChangeKeysEq
namespace Go.Proofs.Ytncjfljmnkfghaa
open Go.RowKit
section
variable {w w' : World} {x : MB} {N : Nat} {S T : List UInt8} {A : List Bool}
theorem PM.view (h : PM w x N S T A) : ∃ cs ct, N ≤ cs ∧ N ≤ ct ∧ w.cell? ⟨x.p, 0, none⟩ = some (.slice (some ⟨x.gs, 0, none⟩) N cs) ∧ w.cell? ⟨x.p, 1, none⟩ = some (.slice (some ⟨x.gt, 0, none⟩) N ct) ∧ w.cell? ⟨x.p, 2, none⟩ = some (.map (some x.b)) ∧ x.p < w.heap.size := by
  obtain ⟨cs, ct, h1, h2, h3, h4, h5, h6, h7⟩ := h
  exact ⟨cs, ct, h5.2.1, h6.2.1, h4.cell rfl, h4.cell rfl, h4.cell rfl, h4.lt⟩
theorem PM.isSet (h : PM w x N S T A) : SetIs w x.b A := by obtain ⟨cs, ct, h1, h2, h3, h4, h5, h6, h7⟩ := h; exact h7
theorem PM.apart (h : PM w x N S T A) : x.apart := by obtain ⟨cs, ct, h1, h2, h3, h4, h5, h6, h7⟩ := h; exact h3
theorem PM.seenAt (h : PM w x N S T A) {j : Nat} (hj : j < 8 * N) : w.cell? ⟨x.gs, j, none⟩ = some (.int .u8 ((S.getD j 0).toNat : Int)) ∧ w.frozen? ⟨x.gs, j, none⟩ = false := by
  have hl := h.lenS
  obtain ⟨cs, ct, h1, h2, h3, h4, h5, h6, h7⟩ := h
  exact ⟨h5.cell (bvs_at (by omega)), h5.frozen j⟩
theorem PM.lastAt (h : PM w x N S T A) {j : Nat} (hj : j < 8 * N) : w.cell? ⟨x.gt, j, none⟩ = some (.int .u8 ((T.getD j 0).toNat : Int)) ∧ w.frozen? ⟨x.gt, j, none⟩ = false := by
  have hl := h.lenT
  obtain ⟨cs, ct, h1, h2, h3, h4, h5, h6, h7⟩ := h
  exact ⟨h6.cell (bvs_at (by omega)), h6.frozen j⟩
theorem PM.seenSet (h : PM w x N S T A) (j : Nat) (u : UInt8) : PM (w.setCell ⟨x.gs, j, none⟩ (.int .u8 (u.toNat : Int))) x N (S.set j u) T A ∧ Turn x.F w (w.setCell ⟨x.gs, j, none⟩ (.int .u8 (u.toNat : Int))) := by
  obtain ⟨cs, ct, h1, h2, h3, h4, h5, h6, h7⟩ := h
  have hk : ∀ k, k ≠ x.gs → (w.setCell ⟨x.gs, j, none⟩ (.int .u8 (u.toNat : Int))).heap[k]? = w.heap[k]? := fun k hk => Below.heap_setCell _ _ _ _ hk
  refine ⟨⟨cs, ct, h1, h2, h3, h4.same (hk _ h3.1), ?_, h6.same (hk _ (Ne.symm h3.2.2.2.1)), h7.kept (hk _ (Ne.symm h3.2.2.2.2.1))⟩, Turn.setCell w (.inr (.inl rfl)) _⟩
  have := h5.set j (bv u)
  rwa [bvs_set] at this
theorem PM.lastSet (h : PM w x N S T A) (j : Nat) (u : UInt8) : PM (w.setCell ⟨x.gt, j, none⟩ (.int .u8 (u.toNat : Int))) x N S (T.set j u) A ∧ Turn x.F w (w.setCell ⟨x.gt, j, none⟩ (.int .u8 (u.toNat : Int))) := by
  obtain ⟨cs, ct, h1, h2, h3, h4, h5, h6, h7⟩ := h
  have hk : ∀ k, k ≠ x.gt → (w.setCell ⟨x.gt, j, none⟩ (.int .u8 (u.toNat : Int))).heap[k]? = w.heap[k]? := fun k hk => Below.heap_setCell _ _ _ _ hk
  refine ⟨⟨cs, ct, h1, h2, h3, h4.same (hk _ h3.2.1), h5.same (hk _ h3.2.2.2.1), ?_, h7.kept (hk _ (Ne.symm h3.2.2.2.2.2))⟩, Turn.setCell w (.inr (.inr (.inl rfl))) _⟩
  have := h6.set j (bv u)
  rwa [bvs_set] at this
theorem PM.setTo (h : PM w x N S T A) {A' : List Bool} (hs : SetIs w' x.b A') (hl : A'.length = A.length) (hg : w.grownBy w' (some x.b)) : PM w' x N S T A' ∧ Turn x.F w w' := by
  have ht : Turn x.F w w' := Turn.grown hg (fun j hj => by injection hj with hj; subst hj; exact .inr (.inr (.inr rfl)))
  have ht2 : Turn (fun k => k = x.b) w w' := Turn.grown hg (fun j hj => by injection hj with hj; subst hj; rfl)
  obtain ⟨cs, ct, h1, h2, h3, h4, h5, h6, h7⟩ := h
  exact ⟨⟨cs, ct, h1, by omega, h3, h4.turn ht2 h3.2.2.1, h5.turn ht2 h3.2.2.2.2.1, h6.turn ht2 h3.2.2.2.2.2, hs⟩, ht⟩
end

def StoreInv (w wr : World) (x : MB) (N : Nat) (S T : List UInt8) (A : List Bool) (a m : Nat) (bs : List UInt8) (t : Value) : Prop := ∃ j : Nat, t = .int .i64 (j : Int) ∧ j ≤ m ∧ PM wr x N (putL S a (bs.take j)) T (clrL A a j) ∧ Turn x.F w wr

theorem wrapA {a j M : Nat} (h : a + j < M) (h' : M ≤ 8 * 131072) : wrap64 ((a : Int) + (j : Int)) = ((a + j : Nat) : Int) := by rw [IntWalk.wrap64_in _ (by omega)]; simp

set_option maxHeartbeats 1000000 in
theorem pm_store {w : World} {x : MB} {N : Nat} {S T : List UInt8} {A : List Bool} (h : PM w x N S T A) {B : Option Addr} {m c : Nat} {bs : List UInt8} (hs : Sl w B m bs) (hB : 0 < m → ∀ p, B = some p → ¬ x.F p.block) (a : Nat) (hA : a + m ≤ 8 * N) :
    Calls Try.prog 29 #[.pointer (some ⟨x.p, 0, none⟩), .int .i64 (a : Nat), .slice B m c] w fun e w' => e = .returned (.int .i64 0) ∧ PM w' x N (putL S a bs) T (clrL A a m) ∧ Turn x.F w w' := by
  obtain ⟨hb1, hb2, hb3⟩ := h.bound
  have hw := pm_within h (a : Int) (m : Int) (by omega) (by omega)
  rw [inW_iff.2 ⟨by omega, by omega, by omega⟩] at hw
  have HW := Lib.hid hw
  have HB := Lib.hid hb3
  have HLA := Lib.hid h.lenA
  have hlen := hs.1
  have HLEN := Lib.hid hlen
  clear hw hb1 hb2 hb3 hlen
  go_enter Try.func29, Try.ntmps29
  go_wp2_with fail
  refine HW.out.mono ?_
  rintro e w1 ⟨rfl, rfl⟩
  clear HW
  go_wp2_with fail
  go_loopw [18] (fun t wr => StoreInv w wr x N S T A a m bs t) (fun t _ => m - (intOf t).toNat)
  case atStart => exact ⟨0, rfl, by omega, h, Turn.refl _ _⟩
  case round =>
    obtain ⟨j, rfl, hj, hP, ht⟩ := hrel
    by_cases hlt : j < m
    · obtain ⟨cs, ct, hcs, hct, c0, -, c2, l0⟩ := hP.view
      obtain ⟨b0, o0, rfl, hb0, cb⟩ := hs.cell hlt
      have hnb := hB (Nat.lt_of_le_of_lt (Nat.zero_le j) hlt) _ rfl
      replace cb := (ht.cell (p := ⟨b0, o0 + j, none⟩) hb0 hnb).trans cb
      obtain ⟨u, hu⟩ : ∃ u, u = bs[j]'(by rw [HLEN.out]; exact hlt) := ⟨_, rfl⟩
      rw [← hu] at cb
      obtain ⟨i, hi⟩ : ∃ i, i = a + j := ⟨_, rfl⟩
      obtain ⟨q, hq⟩ : ∃ q, q = i / 8 := ⟨_, rfl⟩
      obtain ⟨r, hr8⟩ : ∃ r, r = i % 8 := ⟨_, rfl⟩
      have haj : i < 8 * N := by omega
      have hqN : q < N := by omega
      have hr8' : r < 8 := by omega
      have hqr : i = q * 8 + r := by omega
      obtain ⟨cS, fS⟩ := hP.seenAt haj
      obtain ⟨hP1, ht1⟩ := hP.seenSet i u
      have HP := Lib.hid hP1
      have HT := Lib.hid (ht.and ht1)
      rw [hqr] at hP1
      obtain ⟨cs1, ct1, -, -, -, -, d2, -⟩ := hP1.view
      have hSet := hP1.isSet
      have HPUT := Lib.hid (putL_take (S := S) (i := a) (bs := bs) (k := j) (by rw [HLEN.out]; exact hlt))
      have HU := Lib.hid hu
      have hlc : (clrL A a j).length = N := by rw [clrL_length, HLA.out]
      have HCL := Lib.hid (show clrL A a (j + 1) = (clrL A a j).set q false by rw [clrL, hq, hi])
      have HQA := Lib.hid (show q < (clrL A a j).length by rw [hlc]; exact hqN)
      have HQM := Lib.hid (show q ≤ 1000000 by have := HB.out; omega)
      rw [hqr] at cS fS
      have HQR := Lib.hid hqr
      have HI := Lib.hid hi
      have e5 := wrapS (M := 8 * N) (show j < 8 * N by omega) (Nat.mul_le_mul_left 8 HB.out)
      have e1 := wrapA (hi ▸ haj) (Nat.mul_le_mul_left 8 HB.out)
      rw [← hi] at e1
      have e2 := tdiv8 hq
      have e3 := tmod8 hr8
      have e4 := wrapN hqN HB.out
      clear hP hP1 ht ht1 hu hq hr8 hqr hlc haj hi
      go_wp2_with (at_delete; refine wpList_setDel rfl (.tmp 42) (.tmp 43) rfl rfl hSet q HQA.out HQM.out (congrArg (Value.int .i64) e4) ?_; intro w2 hS2 hg2 hz2)
      have X : StoreInv w w2 x N S T A a m bs (.int .i64 ((j : Int) + 1)) := by
        have hP1 := HP.out
        rw [HI.out] at hP1
        have hh := hP1.setTo (w' := w2) (A' := clrL A a (j + 1)) (by rw [HCL.out]; exact hS2) (by rw [clrL_length, clrL_length]) (by rw [← HI.out, HQR.out]; exact hg2)
        refine ⟨j + 1, by simp, hlt, ?_, ?_⟩
        · rw [HPUT.out, ← HU.out]; exact hh.1
        · have := HT.out; rw [HI.out] at this; exact this.and hh.2
      go_roundw
      case rel => (try rw [e5]); first | exact X | ((repeat apply Exists.intro); exact X) | ((repeat apply Exists.intro); refine ⟨X, ?_⟩; rfl)
      case measure => first | exact meas hlt | exact measW hlt e5
    · obtain rfl : j = m := by omega
      have hbs : bs.take j = bs := List.take_of_length_le (by rw [HLEN.out]; omega)
      rw [hbs] at hP
      clear hs hB
      go_wp2_with fail
      go_ret
      exact ⟨rfl, hP, ht⟩
end Go.Proofs.Ytncjfljmnkfghaa

namespace Go.Proofs.Ytncjfljmnkfghaa
open Go.RowKit

theorem pm_store_no {w : World} {x : MB} {N : Nat} {S T : List UInt8} {A : List Bool} (h : PM w x N S T A) (B : Option Addr) (m c : Nat) (hm : m ≤ 17592186044416) (at_ : Int) (hin : inW (8 * N) at_ m = false) :
    Calls Try.prog 29 #[.pointer (some ⟨x.p, 0, none⟩), .int .i64 at_, .slice B m c] w fun e w' => e = .returned (.int .i64 1) ∧ w = w' := by
  have hw := pm_within h at_ (m : Int) (by omega) (by omega)
  rw [hin] at hw
  have HW := Lib.hid hw
  clear hw hin h hm
  go_enter Try.func29, Try.ntmps29
  go_wp2_with fail
  refine HW.out.mono ?_
  rintro e w1 ⟨rfl, rfl⟩
  go_wp2_with fail
  go_ret
  exact ⟨rfl, rfl⟩

set_option maxHeartbeats 2000000 in
theorem pm_keep {w : World} {x : MB} {N : Nat} {S T : List UInt8} {A : List Bool} (h : PM w x N S T A) (k : Nat) (hk : k < N) :
    Calls Try.prog 60 #[.pointer (some ⟨x.p, 0, none⟩), .int .i64 (k : Nat)] w fun e w' => e = .returned (.tuple #[]) ∧ PM w' x N S (keepN S T (8 * k) 8) (A.set k false) ∧ Turn x.F w w' := by
  obtain ⟨cs, ct, hcs, hct, c0, c1, c2, l0⟩ := h.view
  have H := Lib.hid h
  have hb := h.bound
  have HB := Lib.hid hb.2.2
  obtain ⟨s0, -⟩ := h.seenAt (j := k * 8) (by omega)
  obtain ⟨s1, -⟩ := h.seenAt (j := k * 8 + 1) (by omega)
  obtain ⟨s2, -⟩ := h.seenAt (j := k * 8 + 2) (by omega)
  obtain ⟨s3, -⟩ := h.seenAt (j := k * 8 + 3) (by omega)
  obtain ⟨s4, -⟩ := h.seenAt (j := k * 8 + 4) (by omega)
  obtain ⟨s5, -⟩ := h.seenAt (j := k * 8 + 5) (by omega)
  obtain ⟨s6, -⟩ := h.seenAt (j := k * 8 + 6) (by omega)
  obtain ⟨s7, -⟩ := h.seenAt (j := k * 8 + 7) (by omega)
  obtain ⟨t0, f0⟩ := h.lastAt (j := k * 8) (by omega)
  obtain ⟨t1, f1⟩ := h.lastAt (j := k * 8 + 1) (by omega)
  obtain ⟨t2, f2⟩ := h.lastAt (j := k * 8 + 2) (by omega)
  obtain ⟨t3, f3⟩ := h.lastAt (j := k * 8 + 3) (by omega)
  obtain ⟨t4, f4⟩ := h.lastAt (j := k * 8 + 4) (by omega)
  obtain ⟨t5, f5⟩ := h.lastAt (j := k * 8 + 5) (by omega)
  obtain ⟨t6, f6⟩ := h.lastAt (j := k * 8 + 6) (by omega)
  obtain ⟨t7, f7⟩ := h.lastAt (j := k * 8 + 7) (by omega)
  clear h hb
  go_enter Try.func60, Try.ntmps60
  go_upto_region 0 with (fail)
  go_cut [] (fun wx => PM wx x N S (keepN S T (8 * k) 8) A ∧ Turn x.F w wx)
  case first =>
    go_region
    go_wp2_with fail
    go_meet
    have e : keepN S T (8 * k) 8 = (((((((T.set (k * 8) (S.getD (k * 8) 0)).set (k * 8 + 1) (S.getD (k * 8 + 1) 0)).set (k * 8 + 2) (S.getD (k * 8 + 2) 0)).set (k * 8 + 3) (S.getD (k * 8 + 3) 0)).set (k * 8 + 4) (S.getD (k * 8 + 4) 0)).set (k * 8 + 5) (S.getD (k * 8 + 5) 0)).set (k * 8 + 6) (S.getD (k * 8 + 6) 0)).set (k * 8 + 7) (S.getD (k * 8 + 7) 0) := by
      rw [Nat.mul_comm 8 k]; rfl
    rw [e]
    have h0 := H.out.lastSet (k * 8) (S.getD (k * 8) 0)
    have h1 := h0.1.lastSet (k * 8 + 1) (S.getD (k * 8 + 1) 0)
    have h2 := h1.1.lastSet (k * 8 + 2) (S.getD (k * 8 + 2) 0)
    have h3 := h2.1.lastSet (k * 8 + 3) (S.getD (k * 8 + 3) 0)
    have h4 := h3.1.lastSet (k * 8 + 4) (S.getD (k * 8 + 4) 0)
    have h5 := h4.1.lastSet (k * 8 + 5) (S.getD (k * 8 + 5) 0)
    have h6 := h5.1.lastSet (k * 8 + 6) (S.getD (k * 8 + 6) 0)
    have h7 := h6.1.lastSet (k * 8 + 7) (S.getD (k * 8 + 7) 0)
    exact ⟨h7.1.keep ((Grow.refl _).drew), (((((((h0.2.and h1.2).and h2.2).and h3.2).and h4.2).and h5.2).and h6.2).and h7.2).andGrow ((Grow.refl _).drew)⟩
  case rest =>
    obtain ⟨h1, r1⟩ := hcut
    clear c0 c1 c2 l0 s0 s1 s2 s3 s4 s5 s6 s7 t0 t1 t2 t3 t4 t5 t6 t7 f0 f1 f2 f3 f4 f5 f6 f7
    obtain ⟨cs', ct', -, -, -, -, d2, l1⟩ := h1.view
    have hSet := h1.isSet
    have H1 := Lib.hid h1
    have HL := Lib.hid h1.lenA
    have HK := Lib.hid (show k < A.length by rw [h1.lenA]; exact hk)
    have HM := Lib.hid (show k ≤ 1000000 by have := HB.out; omega)
    clear h1
    go_wp2_with (at_delete; refine wpList_setDel rfl (.tmp 20) (.tmp 21) rfl rfl hSet k HK.out HM.out rfl ?_; intro w2 hS2 hg2 hz2)
    have h2 := H1.out.setTo hS2 (by rw [List.length_set]) hg2
    go_end0
    exact ⟨rfl, h2.1, r1.and h2.2⟩
end Go.Proofs.Ytncjfljmnkfghaa

namespace Go.Proofs.Ytncjfljmnkfghaa
open Go.RowKit

def ics (L : List Int) : List Value := L.map (fun n => .int .i64 n)
theorem ics_append (a b : List Int) : ics (a ++ b) = ics a ++ ics b := by simp [ics]
theorem ics_length (a : List Int) : (ics a).length = a.length * 1 := by simp [ics]
theorem ics_one (a : List Int) : ∀ u ∈ ics a, u.oneCell' = true := by
  intro u hu
  obtain ⟨r, -, rfl⟩ := List.mem_map.1 hu
  rfl
/-- A row of ints of the call's own. -/
def OI (w : World) (base : Nat) (v : Value) (L : List Int) : Prop := w.ownsRow base 3 1 v L.length (ics L)
theorem OI.nil (w : World) (base : Nat) : OI w base (.slice none 0 0) [] := World.ownsRow_nil _ _ _ _
theorem OI.alloc {w : World} {base : Nat} {v : Value} {L : List Int} (h : OI w base v L) (o : Obj) : OI (w.alloc o) base v L := World.ownsRow.alloc h o
theorem int_info : (Try.prog.info? 3).map (fun i => (i.zero, i.size, i.bytes)) = some (some (.int .i64 0), 1, 8) := by kernel_rfl
theorem wpList_appI {w : World} {ops : Array Oper} {rest : List Oper} {o : Oper} {a : Act} {Q : Exit → Act → World → Prop} (hgd : o.guard = none) (s x : Operand)
    (ho : o.op = .call { callee := .builtin .append, args := #[s, x], argTypes := #[53, 53] })
    (base : Nat) (v : Value) (L : List Int) (hs : a.eval s = v) (hown : OI w base v L)
    (B : Nat) (A : Option Addr) (c : Nat) (news : List Int) (m : Nat) (hm : m = news.length) (hx : a.eval x = .slice A m c) (hr : Rd w B A 1 news.length (ics news))
    (h63 : L.length + news.length ≤ 1000000) (hbase : base ≤ w.heap.size)
    (h : ∀ v' w', OI w' base v' (L ++ news) → Below base w w' → w.grownBy w' v.ownBlock → (v'.ownBlock = v.ownBlock ∨ v'.ownBlock = some w.heap.size) → wpList Try.prog ops Q rest (a.put o.dst v') w') : wpList Try.prog ops Q (o :: rest) a w := by
  subst hm
  obtain ⟨i0, hi, hz, h1, h2⟩ := info_parts int_info
  refine wpList_app hgd s x _ ho base 3 i0 _ 1 8 Try.underlying53 hi hz h1 h2 rfl (by omega) v L.length (ics L) hs hown B A news.length c (ics news) hx hr (ics_one news) (by unfold maxLen; omega) (by omega) hbase ?_
  intro v' w' h3 h4 h5
  exact h v' w' (by unfold OI; rw [List.length_append, ics_append]; exact h3) ((Below.refl _ _).grown h4 hbase (fun k hk => (hown.lt k hk).1)) h4 h5

theorem Rd.litV (w : World) (t : TypeId) (vs : List Value) (size n : Nat) (hn : vs.length = n * size) : Rd (w.alloc (.cells vs.toArray t)) (w.heap.size + 1) (some ⟨w.heap.size, 0, none⟩) size n vs := by
  refine ⟨hn, fun _ => ⟨_, _, rfl, by omega, fun j u hu => ?_⟩⟩
  rw [cell_of_row _ _ (0 + j) vs.toArray t (0, 0) (heap_alloc_new w _)]
  simpa using hu
theorem Grow.grown {w w' : World} (g : Grow w w') : w.grownBy w' none := ⟨g.os, g.tape, g.output, g.size, fun k hk _ => g.block k hk⟩
theorem own_none (v : Value) : v.ownBlock = none ∨ v.ownBlock ≠ none := by cases v.ownBlock <;> simp
theorem wpList_appIone {w : World} {ops : Array Oper} {rest : List Oper} {o : Oper} {a : Act} {Q : Exit → Act → World → Prop} (hgd : o.guard = none) (s x : Operand)
    (ho : o.op = .call { callee := .builtin .append, args := #[s, x], argTypes := #[53, 53] })
    (base : Nat) (u : Value) (K : List Int) (hs : a.eval s = u) (r : Int) (hx : a.eval x = .slice (some ⟨w.heap.size, 0, none⟩) 1 1) (hown : OI w base u K)
    (h63 : K.length + 1 ≤ 1000000) (hbase : base ≤ w.heap.size)
    (h : ∀ u' w', OI w' base u' (K ++ [r]) → Below base w w' → wpList Try.prog ops Q rest (a.put o.dst u') w') : wpList Try.prog ops Q (o :: rest) a (w.alloc (.cells #[.int .i64 r] 3)) := by
  refine wpList_appI hgd s x ho base u K hs (hown.alloc _) (w.heap.size + 1) (some ⟨w.heap.size, 0, none⟩) 1 [r] 1 rfl hx (Rd.litV w _ (ics [r]) 1 1 rfl) h63 (by simp; omega) ?_
  intro u' w' q1 q2 q3 q4
  exact h u' w' q1 (((Below.refl _ _).alloc hbase _).trans q2)
def RI (w : World) (A : Option Addr) (n : Nat) (K : List Int) : Prop := K.length = n ∧ Rd w w.heap.size A 1 n (ics K)
theorem RI.keep {w w' : World} {A : Option Addr} {n : Nat} {L : List Int} (h : RI w A n L) (g : Grow w w') : RI w' A n L := ⟨h.1, (Rd.below h.2 g).more g.size⟩
theorem OI.ri {w : World} {base : Nat} {v : Value} {L : List Int} (h : OI w base v L) : ∃ A c, v = .slice A L.length c ∧ L.length ≤ c ∧ RI w A L.length L := by
  obtain ⟨A, c, rfl, h1, -, -, -⟩ := own_form h
  exact ⟨A, c, rfl, h1, rfl, Rd.of_own h⟩
theorem RI.at_ {w : World} {A : Option Addr} {n : Nat} {K : List Int} (h : RI w A n K) {i : Nat} (hi : i < n) : ∃ b o r, K[i]? = some r ∧ A = some ⟨b, o, none⟩ ∧ b < w.heap.size ∧ w.cell? ⟨b, o + i, none⟩ = some (.int .i64 r) := by
  obtain ⟨hn, hl, hr⟩ := h
  obtain ⟨b, o, rfl, hb, hc⟩ := hr (by omega)
  have hi' : i < K.length := by omega
  refine ⟨b, o, K[i], by simp [hi'], rfl, hb, hc i _ (by simp [ics, hi'])⟩

end Go.Proofs.Ytncjfljmnkfghaa

namespace Go.Proofs.Ytncjfljmnkfghaa
open Go.RowKit

theorem cells_u8 : Try.prog.cellsOf 5 = 1 := by kernel_rfl
theorem eqItems_u8 (d : Nat) (w : World) (xs ys : Array Value) (is : List Nat) (X Y : Nat → Int) (hX : ∀ i, i ∈ is → (part 5 xs (i * 1)).run Try.prog w = .ok (.int .u8 (X i)) w) (hY : ∀ i, i ∈ is → (part 5 ys (i * 1)).run Try.prog w = .ok (.int .u8 (Y i)) w) :
    (Op.eqItems (d + 1) 5 1 xs ys is).run Try.prog w = .ok (is.all fun i => X i == Y i) w := by
  induction is with
  | nil => simp [Op.eqItems]
  | cons j js ih =>
    have e1 := hX j (by simp)
    have e2 := hY j (by simp)
    have e3 := ih (fun i hi => hX i (by simp [hi])) (fun i hi => hY i (by simp [hi]))
    simp only [Op.eqItems, Sem.run_bind, e1, e2, Result.andThen_ok, run_equalIn_int w d 5 .u8 .u8 (X j) (Y j) Try.underlying5]
    cases h : (X j == Y j) <;> simp [h, e3]
set_option maxRecDepth 20000 in
theorem eql8u (d : Nat) (w : World) (a0 a1 a2 a3 a4 a5 a6 a7 c0 c1 c2 c3 c4 c5 c6 c7 : Int) : (Op.equalIn (d + 2) 95 (.agg #[.int .u8 a0, .int .u8 a1, .int .u8 a2, .int .u8 a3, .int .u8 a4, .int .u8 a5, .int .u8 a6, .int .u8 a7]) (.agg #[.int .u8 c0, .int .u8 c1, .int .u8 c2, .int .u8 c3, .int .u8 c4, .int .u8 c5, .int .u8 c6, .int .u8 c7])).run Try.prog w = .ok (a0 == c0 && a1 == c1 && a2 == c2 && a3 == c3 && a4 == c4 && a5 == c5 && a6 == c6 && a7 == c7) w := by
  obtain ⟨i0, hi, hz, h1, h2⟩ := info_parts byte_info
  rw [run_equalIn_array w (d + 1) _ _ Try.underlying95 hi, cells_u8]
  rw [eqItems_u8 d w _ _ _ (fun i => [a0, a1, a2, a3, a4, a5, a6, a7].getD i 0) (fun i => [c0, c1, c2, c3, c4, c5, c6, c7].getD i 0)]
  · simp [List.range, List.range.loop, Bool.and_assoc]
  · intro i hi
    have : i = 0 ∨ i = 1 ∨ i = 2 ∨ i = 3 ∨ i = 4 ∨ i = 5 ∨ i = 6 ∨ i = 7 := by simp at hi; omega
    rcases this with rfl | rfl | rfl | rfl | rfl | rfl | rfl | rfl <;> rfl
  · intro i hi
    have : i = 0 ∨ i = 1 ∨ i = 2 ∨ i = 3 ∨ i = 4 ∨ i = 5 ∨ i = 6 ∨ i = 7 := by simp at hi; omega
    rcases this with rfl | rfl | rfl | rfl | rfl | rfl | rfl | rfl <;> rfl
/-- A byte of S, of T at a place of cell k. -/
def sb (S : List UInt8) (k j : Nat) : Int := ((S.getD (k * 8 + j) 0).toNat : Int)
theorem dirty_eq (S T : List UInt8) (k : Nat) : (!(sb S k 0 == sb T k 0 && sb S k 1 == sb T k 1 && sb S k 2 == sb T k 2 && sb S k 3 == sb T k 3 && sb S k 4 == sb T k 4 && sb S k 5 == sb T k 5 && sb S k 6 == sb T k 6 && sb S k 7 == sb T k 7)) = dirtyB S T k := by
  have e : ∀ j, (sb S k j == sb T k j) = !(S.getD (8 * k + j) 0 != T.getD (8 * k + j) 0) := by
    intro j
    unfold sb
    rw [Nat.mul_comm 8 k]
    by_cases h : S.getD (k * 8 + j) 0 = T.getD (k * 8 + j) 0
    · rw [h]; simp
    · have h2 : ¬ ((S.getD (k * 8 + j) 0).toNat : Int) = ((T.getD (k * 8 + j) 0).toNat : Int) := fun q => h (UInt8.toNat_inj.1 (by omega))
      rw [beq_false_of_ne h2]
      simp only [bne, beq_false_of_ne h, Bool.not_false, Bool.not_true]
  simp only [e]
  unfold dirtyB
  simp [List.range, List.range.loop, Bool.not_and]
  simp only [Bool.or_assoc]
theorem PM.seenBytes {w : World} {x : MB} {N : Nat} {S T : List UInt8} {A : List Bool} (h : PM w x N S T A) {k : Nat} (hk : k < N) : ∀ j, j < 8 → w.cell? ⟨x.gs, k * 8 + j, none⟩ = some (.int .u8 (sb S k j)) := fun j hj => (h.seenAt (by omega)).1
theorem PM.lastBytes {w : World} {x : MB} {N : Nat} {S T : List UInt8} {A : List Bool} (h : PM w x N S T A) {k : Nat} (hk : k < N) : ∀ j, j < 8 → w.cell? ⟨x.gt, k * 8 + j, none⟩ = some (.int .u8 (sb T k j)) := fun j hj => (h.lastAt (by omega)).1
theorem dirtyL_succ (S T : List UInt8) (k : Nat) : dirtyL S T (k + 1) = if dirtyB S T k then dirtyL S T k ++ [(k : Int)] else dirtyL S T k := by
  unfold dirtyL
  rw [List.range_succ, List.filter_append]
  by_cases h : dirtyB S T k = true
  · rw [if_pos h]; simp [h]
  · rw [if_neg h]; simp [h]
theorem dirtyL_length (S T : List UInt8) (N : Nat) : (dirtyL S T N).length ≤ N := by
  unfold dirtyL
  rw [List.length_map]
  have := List.length_filter_le (dirtyB S T) (List.range N)
  simpa using this

def DirtyInv (w wr : World) (S T : List UInt8) (N : Nat) (out t : Value) : Prop := ∃ k : Nat, t = .int .i64 (k : Int) ∧ k ≤ N ∧ OI wr w.heap.size out (dirtyL S T k) ∧ Grow w wr

set_option maxHeartbeats 2000000 in
theorem pm_dirty {w : World} {x : MB} {N : Nat} {S T : List UInt8} {A : List Bool} (h : PM w x N S T A) :
    Calls Try.prog 59 #[.pointer (some ⟨x.p, 0, none⟩)] w fun e w' => ∃ v, e = .returned v ∧ OI w' w.heap.size v (dirtyL S T N) ∧ Grow w w' := by
  have HB := Lib.hid h.bound.2.2
  obtain ⟨cs, ct, hcs, hct, c0, c1, c2, l0⟩ := h.view
  go_enter Try.func59, Try.ntmps59
  go_wp2_with fail
  go_loopw [3, 10] (fun out t wr => DirtyInv w wr S T N out t) (fun _ t _ => N - (intOf t).toNat)
  case atStart => exact ⟨0, rfl, by omega, OI.nil _ _, Grow.refl _⟩
  case round =>
    obtain ⟨k, rfl, hk, ho, G⟩ := hrel
    clear c0 c1 c2 l0
    by_cases hlt : k < N
    · obtain ⟨cs', ct', hcs', hct', d0, d1, -, l1⟩ := (h.keep G).view
      have HS := (h.keep G).seenBytes hlt
      have HT := (h.keep G).lastBytes hlt
      have s0 := HS 0 (by omega); have s1 := HS 1 (by omega); have s2 := HS 2 (by omega); have s3 := HS 3 (by omega); have s4 := HS 4 (by omega); have s5 := HS 5 (by omega); have s6 := HS 6 (by omega); have s7 := HS 7 (by omega)
      have t0 := HT 0 (by omega); have t1 := HT 1 (by omega); have t2 := HT 2 (by omega); have t3 := HT 3 (by omega); have t4 := HT 4 (by omega); have t5 := HT 5 (by omega); have t6 := HT 6 (by omega); have t7 := HT 7 (by omega)
      rw [Nat.add_zero] at s0 t0
      have hq := eql8u
      have hdq := dirty_eq S T k
      have hsz := Below.size G
      have hlen : (dirtyL S T k).length + 1 ≤ 1000000 := by have := dirtyL_length S T k; have := HB.out; omega
      have HLEN := Lib.hid hlen
      have e5 := wrapS hlt (by have := HB.out; omega)
      have HD := Lib.hid hdq
      clear HS HT hlen hdq
      go_upto_region 5 with (fail)
      go_cut [27] (fun s wx => s = .bool (dirtyB S T k) ∧ Grow wr wx)
      case first =>
        go_quiet (fail)
        go_wp2_with fail
        go_meet
        exact ⟨by rw [← HD.out]; simp only [Bool.not_and, Bool.or_assoc], (Grow.refl _).drewN _⟩
      case rest =>
        obtain ⟨rfl, g1⟩ := hcut
        have G1 := G.trans g1
        have ho1 : OI wc w.heap.size u3 (dirtyL S T k) := World.ownsRow.kept ho g1.grown (own_none _)
        have hz1 := Below.size G1
        clear d0 d1 l1 s0 s1 s2 s3 s4 s5 s6 s7 t0 t1 t2 t3 t4 t5 t6 t7 hq HD ho G g1 hsz
        have HSUC := Lib.hid (dirtyL_succ S T k)
        cases hD : dirtyB S T k with
        | true =>
          have HSU := Lib.hid (show dirtyL S T (k + 1) = dirtyL S T k ++ [(k : Int)] by rw [HSUC.out, if_pos hD])
          clear hD
          go_wp2_with (at_builtin; refine wpList_appIone rfl (.tmp 28) (.tmp 30) rfl w.heap.size _ (dirtyL S T k) rfl _ (by rfl) ho1 HLEN.out hz1 ?_; intro v2 w2 o2 g2)
          have X : DirtyInv w w2 S T N v2 (.int .i64 ((k : Int) + 1)) := ⟨k + 1, by simp, hlt, by rw [HSU.out]; exact o2, G1.low g2⟩
          go_roundw
          case rel => (try rw [e5]); first | exact X | ((repeat apply Exists.intro); exact X) | ((repeat apply Exists.intro); refine ⟨X, ?_⟩; rfl)
          case measure => first | exact meas hlt | exact measW hlt e5
        | false =>
          have X : DirtyInv w wc S T N u3 (.int .i64 ((k : Int) + 1)) := ⟨k + 1, by simp, hlt, by rw [HSUC.out, if_neg (by rw [hD]; decide)]; exact ho1, G1⟩
          clear hD
          go_wp2_with fail
          go_roundw
          case rel => (try rw [e5]); first | exact X | ((repeat apply Exists.intro); exact X) | ((repeat apply Exists.intro); refine ⟨X, ?_⟩; rfl)
          case measure => first | exact meas hlt | exact measW hlt e5
    · obtain rfl : k = N := by omega
      go_wp2_with fail
      go_ret
      exact ⟨_, rfl, ho, G⟩
end Go.Proofs.Ytncjfljmnkfghaa
