/- A whole variable of many cells read and written at once, by its cells. '==' at arrays of ints. Names are compared; packets are compared. No statement of the seat is proved here. -/
import Derived.Test.YtgjcpchlijpjmaaZ05
import Derived.Deep.MidRow
import Derived.Great.BuildSlice
import Derived.Great.Walk
import Derived.Laws.ResultCell
import Derived.Test.YtgjcpchlijpjmaaZ03
import Derived.ChangeKeysEq
import Derived.Test.YtgjcpchlijpjmaaZ07
namespace Go.Proofs.Ytgjcpchlijpjmaa
open Go.RowKit Go.Great

theorem Blk.range {w : World} {g : Nat} {vs : List Value} (h : Blk w g vs) : w.rangeAt g 0 vs := fun j v hv => by
  have := h.2 j v hv
  simpa using this
theorem Row.there {w : World} {g n : Nat} {vs : List Value} (h : Row w g vs) (hn : n ≤ vs.length) : w.there g 0 n := fun j hj => by
  have h1 := h.1.2 j _ (List.getElem?_eq_getElem (show j < vs.length by omega))
  have h2 := h.2 j (by omega)
  rw [Nat.zero_add]
  exact ⟨by rw [h1]; rfl, h2⟩
theorem setCells_size (g : Nat) : ∀ (vs : List Value) (o : Nat) (w : World), (w.setCells g o vs).heap.size = w.heap.size
  | [], _, _ => rfl
  | v :: vs, o, w => by
    show ((w.setCell ⟨g, o, none⟩ v).setCells g (o + 1) vs).heap.size = _
    rw [setCells_size g vs]
    simp
theorem setCells_turn (g : Nat) : ∀ (vs : List Value) (o : Nat) (w : World), Turn (fun k => k = g) w (w.setCells g o vs)
  | [], _, w => Turn.refl _ w
  | v :: vs, o, w => (Turn.setCell (F := fun k => k = g) w (p := ⟨g, o, none⟩) rfl v).and (setCells_turn g vs (o + 1) _)
theorem Row.setCells {w : World} {g : Nat} {old vs : List Value} (h : Row w g old) (hl : old.length = vs.length) : Row (w.setCells g 0 vs) g vs := by
  have ht := h.there (n := vs.length) (by omega)
  have hr := World.rangeAt_setCells_same w g 0 vs ht
  refine ⟨⟨by rw [setCells_size]; exact h.1.1, fun j v hv => ?_⟩, fun j hj => ?_⟩
  · have := hr j v hv
    simpa using this
  · have := (World.there_setCells ht g 0 vs j hj).2
    simpa using this
section
variable {P : Program} {ops : Array Oper} {rest : List Oper} {o : Oper} {a : Act} {w : World} {Q : Exit → Act → World → Prop}
/-- A whole variable is written. -/
theorem wpList_storeRow (hgd : o.guard = none) (ty : TypeId) (x y : Operand) (ho : o.op = .store ty x y) (hd : o.dst = none)
    (g : Nat) (hx : a.eval x = .pointer (some ⟨g, 0, none⟩)) (vs old : List Value) (hy : a.eval y = .agg vs.toArray) (hr : Row w g old) (hl : old.length = vs.length)
    (hi : (P.info? ty).map (·.size) = some vs.length) (h1 : vs.all (·.oneCell') = true)
    (h : ∀ w', Row w' g vs → Turn (fun k => k = g) w w' → w'.heap.size = w.heap.size → wpList P ops Q rest a w') : wpList P ops Q (o :: rest) a w := by
  refine wpList_store_mid hgd ty x y ho g 0 vs.toArray hx hy (by rw [List.size_toArray]; exact hr.there (by omega)) (by rw [List.size_toArray]; exact hi)
    (all_oneCell_toArray fun v hv => List.all_eq_true.1 h1 v hv) ?_
  rw [hd]
  exact h _ (hr.setCells hl) (setCells_turn g vs 0 w) (setCells_size g vs 0 w)
/-- A whole variable is read. -/
theorem wpList_loadRow (hgd : o.guard = none) (ty : TypeId) (x : Operand) (ho : o.op = .load ty x) (d : Option Tmp) (hd : o.dst = d)
    (g : Nat) (hx : a.eval x = .pointer (some ⟨g, 0, none⟩)) (vs : List Value) (D : TypeDesc) (hr : Blk w g vs)
    (hu : P.underlying ty = some D) (hD : D.isRow = true) (hi : (P.info? ty).map (·.size) = some vs.length)
    (h : wpList P ops Q rest (a.put d (.agg vs.toArray)) w) : wpList P ops Q (o :: rest) a w := by
  subst hd
  exact wpList_load_mid hgd ty x ho g 0 hx vs D hr.range hu hD hi h
/-- A call by its contract, in the midst of a region that is walked by hand. -/
theorem wpList_callC (hg : o.guard = none) (d : Option Tmp) (hd : o.dst = d)
    (f : FuncId) (args : Array Value) (hrun : (execOp a.eval o).run P w = .ok (.enter f args) w) (R : Ending → World → Prop) (hc : Calls P f args w R) (hp : ∀ e w', R e w' → ∃ v, e = .returned v)
    (h : ∀ v w', R (.returned v) w' → wpList P ops Q rest (a.put d v) w') : wpList P ops Q (o :: rest) a w := by
  subst hd
  refine wpList_plain hg fun K hK => ?_
  unfold Oper.wp
  rw [hrun, Oper.upon_enter]
  refine hc.mono fun e w'' hh => ?_
  obtain ⟨v, rfl⟩ := hp _ _ hh
  exact hK _ _ (h v w'' hh)
end
section
variable {P : Program} {ops : Array Oper} {rest : List Oper} {o : Oper} {a : Act} {w : World} {Q : Exit → Act → World → Prop}
/-- The same behind a guard that says yes. -/
theorem wpList_wantK (hw : Region.wanted o (yielded ops a.tmps) = true) (h : ∀ K : Act → World → Prop, (∀ a w, wpList P ops Q rest a w → K a w) → o.wp P a w K Q) : wpList P ops Q (o :: rest) a w :=
  wpList_step fun K hK => by rw [if_pos hw]; exact h K hK
theorem wpList_loadRowG (hw : Region.wanted o (yielded ops a.tmps) = true) (ty : TypeId) (x : Operand) (ho : o.op = .load ty x) (d : Option Tmp) (hd : o.dst = d)
    (g : Nat) (hx : a.eval x = .pointer (some ⟨g, 0, none⟩)) (vs : List Value) (D : TypeDesc) (hr : Blk w g vs)
    (hu : P.underlying ty = some D) (hD : D.isRow = true) (hi : (P.info? ty).map (·.size) = some vs.length)
    (h : wpList P ops Q rest (a.put d (.agg vs.toArray)) w) : wpList P ops Q (o :: rest) a w := by
  subst hd
  exact wpList_wantK hw fun _ hK => wp_load_mid ty x ho g 0 hx vs D hr.range hu hD hi (hK _ _ h)
theorem wpList_callG (hw : Region.wanted o (yielded ops a.tmps) = true) (d : Option Tmp) (hd : o.dst = d)
    (f : FuncId) (args : Array Value) (hrun : (execOp a.eval o).run P w = .ok (.enter f args) w) (R : Ending → World → Prop) (hc : Calls P f args w R) (hp : ∀ e w', R e w' → ∃ v, e = .returned v)
    (h : ∀ v w', R (.returned v) w' → wpList P ops Q rest (a.put d v) w') : wpList P ops Q (o :: rest) a w := by
  subst hd
  refine wpList_wantK hw fun K hK => ?_
  unfold Oper.wp
  rw [hrun, Oper.upon_enter]
  refine hc.mono fun e w'' hh => ?_
  obtain ⟨v, rfl⟩ := hp _ _ hh
  exact hK _ _ (h v w'' hh)
end
/-- A function's statements, one by one. -/
def sndS : Code → Code | .seq _ b => b | c => c
def fstS : Code → Code | .seq a _ => a | c => c
def bodyOf (f : Func) : Code := f.body.getD .skip
/-- A call of this function enters it. -/
def EntersF (f : FuncId) : Prop := ∀ (args : Array Value) (w : World), (callFunc f args).run Try.prog w = .ok (.enter f args) w
theorem entersF {f : FuncId} {fn : Func} {c : Code} (hf : Try.prog.funcs[f]? = some fn) (hn : (fn.name == "runtime.NumGoroutine") = false) (hb : fn.body = some c) : EntersF f := by
  intro args w
  have h1 : ¬ fn.name = "runtime.NumGoroutine" := by simpa using hn
  simp [callFunc, hf, h1, hb]
end Go.Proofs.Ytgjcpchlijpjmaa

namespace Go.Proofs.Ytgjcpchlijpjmaa
open Go.RowKit

theorem arr_info : (Try.prog.info? 3).map (fun i => (i.zero, i.size, i.bytes)) = some (some (.int .i64 0), 1, 8) := by kernel_rfl
theorem arr_cells : Try.prog.cellsOf 3 = 1 := by kernel_rfl

theorem eqItems_ints (d : Nat) (w : World) (xs ys : Array Value) (is : List Nat) (X Y : Nat → Int) (hX : ∀ i, i ∈ is → (part 3 xs (i * 1)).run Try.prog w = .ok (.int .i64 (X i)) w) (hY : ∀ i, i ∈ is → (part 3 ys (i * 1)).run Try.prog w = .ok (.int .i64 (Y i)) w) :
    (Op.eqItems (d + 1) 3 1 xs ys is).run Try.prog w = .ok (is.all fun i => X i == Y i) w := by
  induction is with
  | nil => simp [Op.eqItems]
  | cons j js ih =>
    have e1 := hX j (by simp)
    have e2 := hY j (by simp)
    have e3 := ih (fun i hi => hX i (by simp [hi])) (fun i hi => hY i (by simp [hi]))
    simp only [Op.eqItems, Sem.run_bind, e1, e2, Result.andThen_ok, run_equalIn_int w d 3 .i64 .i64 (X j) (Y j) Try.underlying3]
    cases h : (X j == Y j) <;> simp [h, e3]

theorem eql4 (d : Nat) (w : World) (a0 a1 a2 a3 c0 c1 c2 c3 : Int) : (Op.equalIn (d + 2) 30 (.agg #[.int .i64 a0, .int .i64 a1, .int .i64 a2, .int .i64 a3]) (.agg #[.int .i64 c0, .int .i64 c1, .int .i64 c2, .int .i64 c3])).run Try.prog w = .ok (a0 == c0 && a1 == c1 && a2 == c2 && a3 == c3) w := by
  obtain ⟨i0, hi, hz, h1, h2⟩ := info_parts arr_info
  rw [run_equalIn_array w (d + 1) _ _ Try.underlying30 hi, arr_cells]
  rw [eqItems_ints d w _ _ _ (fun i => [a0, a1, a2, a3].getD i 0) (fun i => [c0, c1, c2, c3].getD i 0)]
  · simp [List.range, List.range.loop, Bool.and_assoc]
  · intro i hi
    have : i = 0 ∨ i = 1 ∨ i = 2 ∨ i = 3 := by simp at hi; omega
    rcases this with rfl | rfl | rfl | rfl <;> rfl
  · intro i hi
    have : i = 0 ∨ i = 1 ∨ i = 2 ∨ i = 3 := by simp at hi; omega
    rcases this with rfl | rfl | rfl | rfl <;> rfl

theorem eql8 (d : Nat) (w : World) (a0 a1 a2 a3 a4 a5 a6 a7 c0 c1 c2 c3 c4 c5 c6 c7 : Int) : (Op.equalIn (d + 2) 31 (.agg #[.int .i64 a0, .int .i64 a1, .int .i64 a2, .int .i64 a3, .int .i64 a4, .int .i64 a5, .int .i64 a6, .int .i64 a7]) (.agg #[.int .i64 c0, .int .i64 c1, .int .i64 c2, .int .i64 c3, .int .i64 c4, .int .i64 c5, .int .i64 c6, .int .i64 c7])).run Try.prog w = .ok (a0 == c0 && a1 == c1 && a2 == c2 && a3 == c3 && a4 == c4 && a5 == c5 && a6 == c6 && a7 == c7) w := by
  obtain ⟨i0, hi, hz, h1, h2⟩ := info_parts arr_info
  rw [run_equalIn_array w (d + 1) _ _ Try.underlying31 hi, arr_cells]
  rw [eqItems_ints d w _ _ _ (fun i => [a0, a1, a2, a3, a4, a5, a6, a7].getD i 0) (fun i => [c0, c1, c2, c3, c4, c5, c6, c7].getD i 0)]
  · simp [List.range, List.range.loop, Bool.and_assoc]
  · intro i hi
    have : i = 0 ∨ i = 1 ∨ i = 2 ∨ i = 3 ∨ i = 4 ∨ i = 5 ∨ i = 6 ∨ i = 7 := by simp at hi; omega
    rcases this with rfl | rfl | rfl | rfl | rfl | rfl | rfl | rfl <;> rfl
  · intro i hi
    have : i = 0 ∨ i = 1 ∨ i = 2 ∨ i = 3 ∨ i = 4 ∨ i = 5 ∨ i = 6 ∨ i = 7 := by simp at hi; omega
    rcases this with rfl | rfl | rfl | rfl | rfl | rfl | rfl | rfl <;> rfl
end Go.Proofs.Ytgjcpchlijpjmaa

namespace Go.Proofs.Ytgjcpchlijpjmaa
open Go.RowKit

theorem ba_toList {a b : ByteArray} : a.toList = b.toList ↔ a = b := by
  rw [ByteArray.toList_eq, ByteArray.toList_eq]
  exact ⟨fun h => by cases a; cases b; simpa using h, fun h => by rw [h]⟩
theorem ba_beq (a b : ByteArray) : (a.toList == b.toList) = decide (a = b) := by
  rw [Bool.eq_iff_iff, beq_iff_eq, decide_eq_true_iff, ba_toList]

set_option maxHeartbeats 4000000 in
theorem names_equal {w : World} {A A' : Option Addr} {n n' c c' : Nat} {K L : List ByteArray} (hk : RS w A n K) (hl : RS w A' n' L) (hn : n ≤ 2000) (hn' : n' ≤ 2000) :
    Calls Try.prog 48 #[.slice A n c, .slice A' n' c'] w fun e w' => e = .returned (.bool (decide (K = L))) ∧ ∃ j, w' = w.drewN j := by
  by_cases hlen : n = n'
  · subst hlen
    have HK := Lib.hid hk
    have HL := Lib.hid hl
    clear hk hl
    go_enter Try.func48, Try.ntmps48
    go_wp2_with fail
    go_loopw [13] (fun i wr => ∃ k j : Nat, k ≤ n ∧ i = .int .i64 k ∧ K.take k = L.take k ∧ wr = w.drewN j) (fun i _ => n - (intOf i).toNat)
    case atStart => exact ⟨0, 0, Nat.zero_le _, rfl, rfl, rfl⟩
    case round =>
      obtain ⟨k, j, hk, rfl, ht, rfl⟩ := hrel
      have HT := Lib.hid ht
      clear ht
      by_cases hlt : k < n
      · obtain ⟨b, o, r, hr, rfl, _, hc⟩ := HK.out.at_ hlt
        obtain ⟨b', o', r', hr', rfl, _, hc'⟩ := HL.out.at_ hlt
        have HU := Lib.hid hr
        have HU' := Lib.hid hr'
        clear hr hr'
        by_cases he : r = r'
        · have heq : (r.toList == r'.toList) = true := by rw [he]; simp
          have HE := Lib.hid he
          clear he
          go_wp2
          go_quiet (fail)
          go_wp2
          go_roundw
          case rel =>
            refine ⟨k + 1, _, by omega, by go_num, ?_, rfl⟩
            rw [take_snoc HU.out, take_snoc HU'.out, HT.out, HE.out]
          case measure => simp [intOf]; omega
        · have heq : (r.toList == r'.toList) = false := by rw [beq_eq_false_iff_ne]; exact fun e => he (ba_toList.1 e)
          have HE := Lib.hid he
          clear he
          go_wp2
          go_quiet (fail)
          go_wp2
          go_ret
          refine ⟨ret_bool ?_, _, World.drewN_drewN ..⟩
          rw [eq_comm, decide_eq_false_iff_not]
          intro e
          have h1 := HU.out
          rw [e, HU'.out] at h1
          exact HE.out (by injection h1 with h1; exact h1.symm)
      · obtain rfl : k = n := by omega
        go_wp2
        go_ret
        refine ⟨ret_bool ?_, _, rfl⟩
        rw [eq_comm, decide_eq_true_iff]
        have h1 := HT.out
        rwa [List.take_of_length_le (by rw [HK.out.1]; exact Nat.le_refl _), List.take_of_length_le (by rw [HL.out.1]; exact Nat.le_refl _)] at h1
  · have hne : ¬ K = L := fun e => hlen (by rw [← hk.1, ← hl.1, e])
    have z1 : (((n : Nat) : Int) != ((n' : Nat) : Int)) = true := by rw [bne_iff_ne]; omega
    rw [decide_eq_false hne]
    clear hne
    go_enter Try.func48, Try.ntmps48
    go_wp2_with fail
    go_ret
    exact ⟨rfl, 0, rfl⟩

set_option maxHeartbeats 4000000 in
theorem names_same {w : World} {A A' : Option Addr} {n n' c c' : Nat} {K L : List ByteArray} (hk : RS w A n K) (hl : RS w A' n' L) (hn : n ≤ 2000) (hn' : n' ≤ 2000) :
    Calls Try.prog 38 #[.slice A n c, .slice A' n' c'] w fun e w' => e = .returned (.bool (decide (K = L))) ∧ ∃ j, w' = w.drewN j := by
  by_cases hlen : n = n'
  · subst hlen
    have HK := Lib.hid hk
    have HL := Lib.hid hl
    clear hk hl
    go_enter Try.func38, Try.ntmps38
    go_wp2_with fail
    go_loopw [5] (fun i wr => ∃ k j : Nat, k ≤ n ∧ i = .int .i64 k ∧ K.take k = L.take k ∧ wr = w.drewN j) (fun i _ => n - (intOf i).toNat)
    case atStart => exact ⟨0, 0, Nat.zero_le _, rfl, rfl, rfl⟩
    case round =>
      obtain ⟨k, j, hk, rfl, ht, rfl⟩ := hrel
      have HT := Lib.hid ht
      clear ht
      by_cases hlt : k < n
      · obtain ⟨b, o, r, hr, rfl, _, hc⟩ := HK.out.at_ hlt
        obtain ⟨b', o', r', hr', rfl, _, hc'⟩ := HL.out.at_ hlt
        have HU := Lib.hid hr
        have HU' := Lib.hid hr'
        clear hr hr'
        by_cases he : r = r'
        · have heq : (r.toList == r'.toList) = true := by rw [he]; simp
          have HE := Lib.hid he
          clear he
          go_wp2
          go_quiet (fail)
          go_wp2
          go_roundw
          case rel =>
            refine ⟨k + 1, _, by omega, by go_num, ?_, rfl⟩
            rw [take_snoc HU.out, take_snoc HU'.out, HT.out, HE.out]
          case measure => simp [intOf]; omega
        · have heq : (r.toList == r'.toList) = false := by rw [beq_eq_false_iff_ne]; exact fun e => he (ba_toList.1 e)
          have HE := Lib.hid he
          clear he
          go_wp2
          go_quiet (fail)
          go_wp2
          go_ret
          refine ⟨ret_bool ?_, _, World.drewN_drewN ..⟩
          rw [eq_comm, decide_eq_false_iff_not]
          intro e
          have h1 := HU.out
          rw [e, HU'.out] at h1
          exact HE.out (by injection h1 with h1; exact h1.symm)
      · obtain rfl : k = n := by omega
        go_wp2
        go_ret
        refine ⟨ret_bool ?_, _, rfl⟩
        rw [eq_comm, decide_eq_true_iff]
        have h1 := HT.out
        rwa [List.take_of_length_le (by rw [HK.out.1]; exact Nat.le_refl _), List.take_of_length_le (by rw [HL.out.1]; exact Nat.le_refl _)] at h1
  · have hne : ¬ K = L := fun e => hlen (by rw [← hk.1, ← hl.1, e])
    have z1 : (((n : Nat) : Int) != ((n' : Nat) : Int)) = true := by rw [bne_iff_ne]; omega
    rw [decide_eq_false hne]
    clear hne
    go_enter Try.func38, Try.ntmps38
    go_wp2_with fail
    go_ret
    exact ⟨rfl, 0, rfl⟩
/-! ## Packets -/
def callB (p q : PK) : Bool := decide (p.ckind = q.ckind ∧ p.path = q.path ∧ p.path2 = q.path2 ∧ p.flags = q.flags ∧ p.cfd = q.cfd ∧ p.coff = q.coff ∧ p.cn = q.cn ∧ p.cdata = q.cdata)
def nodeB (p q : PK) : Bool := decide (p.nkind = q.nkind ∧ p.nlinks = q.nlinks ∧ p.nsize = q.nsize ∧ p.b0 = q.b0 ∧ p.b1 = q.b1 ∧ p.b2 = q.b2 ∧ p.b3 = q.b3 ∧ p.o0 = q.o0 ∧ p.o1 = q.o1 ∧ p.o2 = q.o2 ∧ p.o3 = q.o3 ∧ p.o4 = q.o4 ∧ p.o5 = q.o5 ∧ p.o6 = q.o6 ∧ p.o7 = q.o7)
def infoB (p q : PK) : Bool := decide (p.ikind = q.ikind ∧ p.ilinks = q.ilinks ∧ p.isize = q.isize)
def headB (p q : PK) : Bool := decide (p.kind = q.kind) && decide (p.client = q.client) && decide (p.epoch = q.epoch) && decide (p.seq = q.seq) && decide (p.op = q.op)
def verbsB (p q : PK) : Bool := decide (p.at_ = q.at_) && decide (p.n = q.n) && decide (p.data = q.data) && decide (p.old = q.old) && decide (p.new = q.new)
def rpcsB (p q : PK) : Bool := callB p q && decide (p.ino = q.ino) && decide (p.errno = q.errno) && decide (p.wrote = q.wrote) && nodeB p q
def replyB (p q : PK) : Bool := decide (p.rerrno = q.rerrno) && decide (p.rfd = q.rfd) && decide (p.rdata = q.rdata) && infoB p q
theorem infoB_run (d : Nat) (w : World) (p q : PK) : (Op.equalIn (d + 3) 27 (.agg #[.int .i64 p.ikind, .int .i64 p.ilinks, .int .i64 p.isize]) (.agg #[.int .i64 q.ikind, .int .i64 q.ilinks, .int .i64 q.isize])).run Try.prog w = .ok (infoB p q) w := by
  have q4 := eql4
  have q8 := eql8
  go_simp
  unfold infoB
  try simp only [ba_toList]
  repeat' split
  all_goals simp_all
theorem callB_run (d : Nat) (w : World) (p q : PK) : (Op.equalIn (d + 3) 23 (.agg #[.int .i64 p.ckind, .string p.path, .string p.path2, .int .i64 p.flags, .int .i64 p.cfd, .int .i64 p.coff, .int .i64 p.cn, .string p.cdata]) (.agg #[.int .i64 q.ckind, .string q.path, .string q.path2, .int .i64 q.flags, .int .i64 q.cfd, .int .i64 q.coff, .int .i64 q.cn, .string q.cdata])).run Try.prog w = .ok (callB p q) w := by
  have q4 := eql4
  have q8 := eql8
  go_simp
  unfold callB
  try simp only [ba_toList]
  repeat' split
  all_goals simp_all
theorem nodeB_run (d : Nat) (w : World) (p q : PK) : (Op.equalIn (d + 4) 33 (.agg #[.int .i64 p.nkind, .int .i64 p.nlinks, .int .i64 p.nsize, .int .i64 p.b0, .int .i64 p.b1, .int .i64 p.b2, .int .i64 p.b3, .int .i64 p.o0, .int .i64 p.o1, .int .i64 p.o2, .int .i64 p.o3, .int .i64 p.o4, .int .i64 p.o5, .int .i64 p.o6, .int .i64 p.o7]) (.agg #[.int .i64 q.nkind, .int .i64 q.nlinks, .int .i64 q.nsize, .int .i64 q.b0, .int .i64 q.b1, .int .i64 q.b2, .int .i64 q.b3, .int .i64 q.o0, .int .i64 q.o1, .int .i64 q.o2, .int .i64 q.o3, .int .i64 q.o4, .int .i64 q.o5, .int .i64 q.o6, .int .i64 q.o7])).run Try.prog w = .ok (nodeB p q) w := by
  have q4 := eql4
  have q8 := eql8
  go_simp
  unfold nodeB
  try simp only [ba_toList]
  repeat' split
  all_goals simp_all

set_option maxHeartbeats 8000000 in
set_option maxRecDepth 8000 in
theorem ws_headB {w : World} {x : Nat} (p q : PK) (nv nv' : Value) (hx : Blk w x (p.cells nv)) (hy : Blk w (x + 1) (q.cells nv')) (t0 t1 t4 t5 t6 t7 t8 t9 t10 t11 t12 t13 t14 t15 t16 t17 t18 t19 t20 t21 t22 t23 t24 t25 t26 t27 t28 t29 t30 t31 t32 t33 t34 t35 t36 t37 t38 t39 t40 t41 t42 t43 t44 t45 t46 t47 t48 t49 t50 t51 t52 t53 t54 t55 t56 t57 t58 t59 t60 t61 t62 t63 t64 t65 t66 t67 t68 t69 t70 t71 t72 t73 t74 t75 t76 t77 t78 t79 t80 t81 t82 t83 t84 t85 t86 t87 t88 t89 t90 t91 t92 t93 t94 t95 t96 t97 t98 t99 t100 t101 t102 t103 t104 t105 t106 t107 t108 t109 t110 t111 t112 t113 t114 t115 t116 t117 t118 t119 t120 t121 t122 t123 t124 t125 t126 t127 t128 t129 t130 t131 t132 t133 t134 t135 t136 t137 t138 t139 t140 t141 t142 t143 t144 t145 t146 t147 t148 t149 t150 t151 t152 t153 t154 t155 t156 t157 t158 t159 t160 t161 t162 t163 t164 : Value) (Q : Exit → Act → World → Prop)
    (hK : ∀ u17 u18 u19 u20 u21 u22 u23 u24 u25 u26 u27 u28 u29 u30 u31 u32 u33 u34 u35 u36 u37 u38 u39 u40 u41 u42 u43 u44 u45 u46 u47 u48 u49 : Value, Q .normal { tmps := #[t0, t1, .pointer (some ⟨x, 0, none⟩), .pointer (some ⟨x + 1, 0, none⟩), t4, t5, t6, .bool (headB p q), t8, t9, t10, t11, t12, t13, t14, t15, t16, u17, u18, u19, u20, u21, u22, u23, u24, u25, u26, u27, u28, u29, u30, u31, u32, u33, u34, u35, u36, u37, u38, u39, u40, u41, u42, u43, u44, u45, u46, u47, u48, u49, t50, t51, t52, t53, t54, t55, t56, t57, t58, t59, t60, t61, t62, t63, t64, t65, t66, t67, t68, t69, t70, t71, t72, t73, t74, t75, t76, t77, t78, t79, t80, t81, t82, t83, t84, t85, t86, t87, t88, t89, t90, t91, t92, t93, t94, t95, t96, t97, t98, t99, t100, t101, t102, t103, t104, t105, t106, t107, t108, t109, t110, t111, t112, t113, t114, t115, t116, t117, t118, t119, t120, t121, t122, t123, t124, t125, t126, t127, t128, t129, t130, t131, t132, t133, t134, t135, t136, t137, t138, t139, t140, t141, t142, t143, t144, t145, t146, t147, t148, t149, t150, t151, t152, t153, t154, t155, t156, t157, t158, t159, t160, t161, t162, t163, t164], defers := [] } w) :
    Code.wp Try.prog (fstS (sndS (sndS (bodyOf Try.f26)))) Q { tmps := #[t0, t1, .pointer (some ⟨x, 0, none⟩), .pointer (some ⟨x + 1, 0, none⟩), t4, t5, t6, t7, t8, t9, t10, t11, t12, t13, t14, t15, t16, t17, t18, t19, t20, t21, t22, t23, t24, t25, t26, t27, t28, t29, t30, t31, t32, t33, t34, t35, t36, t37, t38, t39, t40, t41, t42, t43, t44, t45, t46, t47, t48, t49, t50, t51, t52, t53, t54, t55, t56, t57, t58, t59, t60, t61, t62, t63, t64, t65, t66, t67, t68, t69, t70, t71, t72, t73, t74, t75, t76, t77, t78, t79, t80, t81, t82, t83, t84, t85, t86, t87, t88, t89, t90, t91, t92, t93, t94, t95, t96, t97, t98, t99, t100, t101, t102, t103, t104, t105, t106, t107, t108, t109, t110, t111, t112, t113, t114, t115, t116, t117, t118, t119, t120, t121, t122, t123, t124, t125, t126, t127, t128, t129, t130, t131, t132, t133, t134, t135, t136, t137, t138, t139, t140, t141, t142, t143, t144, t145, t146, t147, t148, t149, t150, t151, t152, t153, t154, t155, t156, t157, t158, t159, t160, t161, t162, t163, t164], defers := [] } w := by
  have BX := Lib.hid hx
  have BY := Lib.hid hy
  have q4 := eql4
  have q8 := eql8
  clear hx hy
  dsimp only [bodyOf, Try.f26, Option.getD_some, sndS, fstS]
  have c0 := BX.out.2 0 _ rfl
  have d0 := BY.out.2 0 _ rfl
  have c1 := BX.out.2 1 _ rfl
  have d1 := BY.out.2 1 _ rfl
  have c2 := BX.out.2 2 _ rfl
  have d2 := BY.out.2 2 _ rfl
  have c3 := BX.out.2 3 _ rfl
  have d3 := BY.out.2 3 _ rfl
  have c4 := BX.out.2 4 _ rfl
  have d4 := BY.out.2 4 _ rfl
  by_cases h0 : decide (p.kind = q.kind) = true
  · have z0 : (p.kind == q.kind) = true := beq_iff_eq.2 (of_decide_eq_true h0)
    have HE0 := Lib.hid h0
    clear h0
    by_cases h1 : decide (p.client = q.client) = true
    · have z1 : (p.client == q.client) = true := beq_iff_eq.2 (of_decide_eq_true h1)
      have HE1 := Lib.hid h1
      clear h1
      by_cases h2 : decide (p.epoch = q.epoch) = true
      · have z2 : (p.epoch == q.epoch) = true := beq_iff_eq.2 (of_decide_eq_true h2)
        have HE2 := Lib.hid h2
        clear h2
        by_cases h3 : decide (p.seq = q.seq) = true
        · have z3 : (p.seq == q.seq) = true := beq_iff_eq.2 (of_decide_eq_true h3)
          have HE3 := Lib.hid h3
          clear h3
          by_cases h4 : decide (p.op = q.op) = true
          · have z4 : (p.op == q.op) = true := beq_iff_eq.2 (of_decide_eq_true h4)
            have HE4 := Lib.hid h4
            clear h4
            go_wp2_with fail
            have e : headB p q = true := by unfold headB; rw [HE0.out, HE1.out, HE2.out, HE3.out, HE4.out]; rfl
            rw [e] at hK
            exact hK _ _ _ _ _ _ _ _ _ _ _ _ _ _ _ _ _ _ _ _ _ _ _ _ _ _ _ _ _ _ _ _ _
          · have z4 : (p.op == q.op) = false := beq_eq_false_iff_ne.2 (fun e => h4 (decide_eq_true e))
            have HE4 := Lib.hid (eq_false_of_ne_true h4)
            clear h4
            go_wp2_with fail
            have e : headB p q = false := by unfold headB; rw [HE0.out, HE1.out, HE2.out, HE3.out, HE4.out]; rfl
            rw [e] at hK
            exact hK _ _ _ _ _ _ _ _ _ _ _ _ _ _ _ _ _ _ _ _ _ _ _ _ _ _ _ _ _ _ _ _ _
        · have z3 : (p.seq == q.seq) = false := beq_eq_false_iff_ne.2 (fun e => h3 (decide_eq_true e))
          have HE3 := Lib.hid (eq_false_of_ne_true h3)
          clear h3
          go_wp2_with fail
          have e : headB p q = false := by unfold headB; rw [HE0.out, HE1.out, HE2.out, HE3.out]; rfl
          rw [e] at hK
          exact hK _ _ _ _ _ _ _ _ _ _ _ _ _ _ _ _ _ _ _ _ _ _ _ _ _ _ _ _ _ _ _ _ _
      · have z2 : (p.epoch == q.epoch) = false := beq_eq_false_iff_ne.2 (fun e => h2 (decide_eq_true e))
        have HE2 := Lib.hid (eq_false_of_ne_true h2)
        clear h2
        go_wp2_with fail
        have e : headB p q = false := by unfold headB; rw [HE0.out, HE1.out, HE2.out]; rfl
        rw [e] at hK
        exact hK _ _ _ _ _ _ _ _ _ _ _ _ _ _ _ _ _ _ _ _ _ _ _ _ _ _ _ _ _ _ _ _ _
    · have z1 : (p.client == q.client) = false := beq_eq_false_iff_ne.2 (fun e => h1 (decide_eq_true e))
      have HE1 := Lib.hid (eq_false_of_ne_true h1)
      clear h1
      go_wp2_with fail
      have e : headB p q = false := by unfold headB; rw [HE0.out, HE1.out]; rfl
      rw [e] at hK
      exact hK _ _ _ _ _ _ _ _ _ _ _ _ _ _ _ _ _ _ _ _ _ _ _ _ _ _ _ _ _ _ _ _ _
  · have z0 : (p.kind == q.kind) = false := beq_eq_false_iff_ne.2 (fun e => h0 (decide_eq_true e))
    have HE0 := Lib.hid (eq_false_of_ne_true h0)
    clear h0
    go_wp2_with fail
    have e : headB p q = false := by unfold headB; rw [HE0.out]; rfl
    rw [e] at hK
    exact hK _ _ _ _ _ _ _ _ _ _ _ _ _ _ _ _ _ _ _ _ _ _ _ _ _ _ _ _ _ _ _ _ _

set_option maxHeartbeats 8000000 in
set_option maxRecDepth 8000 in
theorem ws_verbsB {w : World} {x : Nat} (p q : PK) (nv nv' : Value) (hx : Blk w x (p.cells nv)) (hy : Blk w (x + 1) (q.cells nv')) (t0 t1 t4 t5 t6 t7 t8 t9 t10 t11 t12 t13 t14 t15 t16 t17 t18 t19 t20 t21 t22 t23 t24 t25 t26 t27 t28 t29 t30 t31 t32 t33 t34 t35 t36 t37 t38 t39 t40 t41 t42 t43 t44 t45 t46 t47 t48 t49 t50 t51 t52 t53 t54 t55 t56 t57 t58 t59 t60 t61 t62 t63 t64 t65 t66 t67 t68 t69 t70 t71 t72 t73 t74 t75 t76 t77 t78 t79 t80 t81 t82 t83 t84 t85 t86 t87 t88 t89 t90 t91 t92 t93 t94 t95 t96 t97 t98 t99 t100 t101 t102 t103 t104 t105 t106 t107 t108 t109 t110 t111 t112 t113 t114 t115 t116 t117 t118 t119 t120 t121 t122 t123 t124 t125 t126 t127 t128 t129 t130 t131 t132 t133 t134 t135 t136 t137 t138 t139 t140 t141 t142 t143 t144 t145 t146 t147 t148 t149 t150 t151 t152 t153 t154 t155 t156 t157 t158 t159 t160 t161 t162 t163 t164 : Value) (Q : Exit → Act → World → Prop)
    (hK : ∀ u50 u51 u52 u53 u54 u55 u56 u57 u58 u59 u60 u61 u62 u63 u64 u65 u66 u67 u68 u69 u70 u71 u72 u73 u74 u75 u76 u77 u78 u79 u80 u81 u82 : Value, Q .normal { tmps := #[t0, t1, .pointer (some ⟨x, 0, none⟩), .pointer (some ⟨x + 1, 0, none⟩), t4, t5, t6, t7, .bool (verbsB p q), t9, t10, t11, t12, t13, t14, t15, t16, t17, t18, t19, t20, t21, t22, t23, t24, t25, t26, t27, t28, t29, t30, t31, t32, t33, t34, t35, t36, t37, t38, t39, t40, t41, t42, t43, t44, t45, t46, t47, t48, t49, u50, u51, u52, u53, u54, u55, u56, u57, u58, u59, u60, u61, u62, u63, u64, u65, u66, u67, u68, u69, u70, u71, u72, u73, u74, u75, u76, u77, u78, u79, u80, u81, u82, t83, t84, t85, t86, t87, t88, t89, t90, t91, t92, t93, t94, t95, t96, t97, t98, t99, t100, t101, t102, t103, t104, t105, t106, t107, t108, t109, t110, t111, t112, t113, t114, t115, t116, t117, t118, t119, t120, t121, t122, t123, t124, t125, t126, t127, t128, t129, t130, t131, t132, t133, t134, t135, t136, t137, t138, t139, t140, t141, t142, t143, t144, t145, t146, t147, t148, t149, t150, t151, t152, t153, t154, t155, t156, t157, t158, t159, t160, t161, t162, t163, t164], defers := [] } w) :
    Code.wp Try.prog (fstS (sndS (sndS (sndS (bodyOf Try.f26))))) Q { tmps := #[t0, t1, .pointer (some ⟨x, 0, none⟩), .pointer (some ⟨x + 1, 0, none⟩), t4, t5, t6, t7, t8, t9, t10, t11, t12, t13, t14, t15, t16, t17, t18, t19, t20, t21, t22, t23, t24, t25, t26, t27, t28, t29, t30, t31, t32, t33, t34, t35, t36, t37, t38, t39, t40, t41, t42, t43, t44, t45, t46, t47, t48, t49, t50, t51, t52, t53, t54, t55, t56, t57, t58, t59, t60, t61, t62, t63, t64, t65, t66, t67, t68, t69, t70, t71, t72, t73, t74, t75, t76, t77, t78, t79, t80, t81, t82, t83, t84, t85, t86, t87, t88, t89, t90, t91, t92, t93, t94, t95, t96, t97, t98, t99, t100, t101, t102, t103, t104, t105, t106, t107, t108, t109, t110, t111, t112, t113, t114, t115, t116, t117, t118, t119, t120, t121, t122, t123, t124, t125, t126, t127, t128, t129, t130, t131, t132, t133, t134, t135, t136, t137, t138, t139, t140, t141, t142, t143, t144, t145, t146, t147, t148, t149, t150, t151, t152, t153, t154, t155, t156, t157, t158, t159, t160, t161, t162, t163, t164], defers := [] } w := by
  have BX := Lib.hid hx
  have BY := Lib.hid hy
  have q4 := eql4
  have q8 := eql8
  clear hx hy
  dsimp only [bodyOf, Try.f26, Option.getD_some, sndS, fstS]
  have c5 := BX.out.2 5 _ rfl
  have d5 := BY.out.2 5 _ rfl
  have c6 := BX.out.2 6 _ rfl
  have d6 := BY.out.2 6 _ rfl
  have c7 := BX.out.2 7 _ rfl
  have d7 := BY.out.2 7 _ rfl
  have c8 := BX.out.2 8 _ rfl
  have d8 := BY.out.2 8 _ rfl
  have c9 := BX.out.2 9 _ rfl
  have d9 := BY.out.2 9 _ rfl
  by_cases h0 : decide (p.at_ = q.at_) = true
  · have z0 : (p.at_ == q.at_) = true := beq_iff_eq.2 (of_decide_eq_true h0)
    have HE0 := Lib.hid h0
    clear h0
    by_cases h1 : decide (p.n = q.n) = true
    · have z1 : (p.n == q.n) = true := beq_iff_eq.2 (of_decide_eq_true h1)
      have HE1 := Lib.hid h1
      clear h1
      by_cases h2 : decide (p.data = q.data) = true
      · have z2 : (p.data.toList == q.data.toList) = true := by rw [ba_beq]; exact h2
        have HE2 := Lib.hid h2
        clear h2
        by_cases h3 : decide (p.old = q.old) = true
        · have z3 : (p.old == q.old) = true := beq_iff_eq.2 (of_decide_eq_true h3)
          have HE3 := Lib.hid h3
          clear h3
          by_cases h4 : decide (p.new = q.new) = true
          · have z4 : (p.new == q.new) = true := beq_iff_eq.2 (of_decide_eq_true h4)
            have HE4 := Lib.hid h4
            clear h4
            go_wp2_with fail
            have e : verbsB p q = true := by unfold verbsB; rw [HE0.out, HE1.out, HE2.out, HE3.out, HE4.out]; rfl
            rw [e] at hK
            exact hK _ _ _ _ _ _ _ _ _ _ _ _ _ _ _ _ _ _ _ _ _ _ _ _ _ _ _ _ _ _ _ _ _
          · have z4 : (p.new == q.new) = false := beq_eq_false_iff_ne.2 (fun e => h4 (decide_eq_true e))
            have HE4 := Lib.hid (eq_false_of_ne_true h4)
            clear h4
            go_wp2_with fail
            have e : verbsB p q = false := by unfold verbsB; rw [HE0.out, HE1.out, HE2.out, HE3.out, HE4.out]; rfl
            rw [e] at hK
            exact hK _ _ _ _ _ _ _ _ _ _ _ _ _ _ _ _ _ _ _ _ _ _ _ _ _ _ _ _ _ _ _ _ _
        · have z3 : (p.old == q.old) = false := beq_eq_false_iff_ne.2 (fun e => h3 (decide_eq_true e))
          have HE3 := Lib.hid (eq_false_of_ne_true h3)
          clear h3
          go_wp2_with fail
          have e : verbsB p q = false := by unfold verbsB; rw [HE0.out, HE1.out, HE2.out, HE3.out]; rfl
          rw [e] at hK
          exact hK _ _ _ _ _ _ _ _ _ _ _ _ _ _ _ _ _ _ _ _ _ _ _ _ _ _ _ _ _ _ _ _ _
      · have z2 : (p.data.toList == q.data.toList) = false := by rw [ba_beq]; exact eq_false_of_ne_true h2
        have HE2 := Lib.hid (eq_false_of_ne_true h2)
        clear h2
        go_wp2_with fail
        have e : verbsB p q = false := by unfold verbsB; rw [HE0.out, HE1.out, HE2.out]; rfl
        rw [e] at hK
        exact hK _ _ _ _ _ _ _ _ _ _ _ _ _ _ _ _ _ _ _ _ _ _ _ _ _ _ _ _ _ _ _ _ _
    · have z1 : (p.n == q.n) = false := beq_eq_false_iff_ne.2 (fun e => h1 (decide_eq_true e))
      have HE1 := Lib.hid (eq_false_of_ne_true h1)
      clear h1
      go_wp2_with fail
      have e : verbsB p q = false := by unfold verbsB; rw [HE0.out, HE1.out]; rfl
      rw [e] at hK
      exact hK _ _ _ _ _ _ _ _ _ _ _ _ _ _ _ _ _ _ _ _ _ _ _ _ _ _ _ _ _ _ _ _ _
  · have z0 : (p.at_ == q.at_) = false := beq_eq_false_iff_ne.2 (fun e => h0 (decide_eq_true e))
    have HE0 := Lib.hid (eq_false_of_ne_true h0)
    clear h0
    go_wp2_with fail
    have e : verbsB p q = false := by unfold verbsB; rw [HE0.out]; rfl
    rw [e] at hK
    exact hK _ _ _ _ _ _ _ _ _ _ _ _ _ _ _ _ _ _ _ _ _ _ _ _ _ _ _ _ _ _ _ _ _

set_option maxHeartbeats 8000000 in
set_option maxRecDepth 8000 in
theorem ws_rpcsB {w : World} {x : Nat} (p q : PK) (nv nv' : Value) (hx : Blk w x (p.cells nv)) (hy : Blk w (x + 1) (q.cells nv')) (t0 t1 t4 t5 t6 t7 t8 t9 t10 t11 t12 t13 t14 t15 t16 t17 t18 t19 t20 t21 t22 t23 t24 t25 t26 t27 t28 t29 t30 t31 t32 t33 t34 t35 t36 t37 t38 t39 t40 t41 t42 t43 t44 t45 t46 t47 t48 t49 t50 t51 t52 t53 t54 t55 t56 t57 t58 t59 t60 t61 t62 t63 t64 t65 t66 t67 t68 t69 t70 t71 t72 t73 t74 t75 t76 t77 t78 t79 t80 t81 t82 t83 t84 t85 t86 t87 t88 t89 t90 t91 t92 t93 t94 t95 t96 t97 t98 t99 t100 t101 t102 t103 t104 t105 t106 t107 t108 t109 t110 t111 t112 t113 t114 t115 t116 t117 t118 t119 t120 t121 t122 t123 t124 t125 t126 t127 t128 t129 t130 t131 t132 t133 t134 t135 t136 t137 t138 t139 t140 t141 t142 t143 t144 t145 t146 t147 t148 t149 t150 t151 t152 t153 t154 t155 t156 t157 t158 t159 t160 t161 t162 t163 t164 : Value) (Q : Exit → Act → World → Prop)
    (hK : ∀ u83 u84 u85 u86 u87 u88 u89 u90 u91 u92 u93 u94 u95 u96 u97 u98 u99 u100 u101 u102 u103 u104 u105 u106 u107 u108 u109 u110 u111 u112 u113 u114 u115 : Value, Q .normal { tmps := #[t0, t1, .pointer (some ⟨x, 0, none⟩), .pointer (some ⟨x + 1, 0, none⟩), t4, t5, t6, t7, t8, .bool (rpcsB p q), t10, t11, t12, t13, t14, t15, t16, t17, t18, t19, t20, t21, t22, t23, t24, t25, t26, t27, t28, t29, t30, t31, t32, t33, t34, t35, t36, t37, t38, t39, t40, t41, t42, t43, t44, t45, t46, t47, t48, t49, t50, t51, t52, t53, t54, t55, t56, t57, t58, t59, t60, t61, t62, t63, t64, t65, t66, t67, t68, t69, t70, t71, t72, t73, t74, t75, t76, t77, t78, t79, t80, t81, t82, u83, u84, u85, u86, u87, u88, u89, u90, u91, u92, u93, u94, u95, u96, u97, u98, u99, u100, u101, u102, u103, u104, u105, u106, u107, u108, u109, u110, u111, u112, u113, u114, u115, t116, t117, t118, t119, t120, t121, t122, t123, t124, t125, t126, t127, t128, t129, t130, t131, t132, t133, t134, t135, t136, t137, t138, t139, t140, t141, t142, t143, t144, t145, t146, t147, t148, t149, t150, t151, t152, t153, t154, t155, t156, t157, t158, t159, t160, t161, t162, t163, t164], defers := [] } w) :
    Code.wp Try.prog (fstS (sndS (sndS (sndS (sndS (bodyOf Try.f26)))))) Q { tmps := #[t0, t1, .pointer (some ⟨x, 0, none⟩), .pointer (some ⟨x + 1, 0, none⟩), t4, t5, t6, t7, t8, t9, t10, t11, t12, t13, t14, t15, t16, t17, t18, t19, t20, t21, t22, t23, t24, t25, t26, t27, t28, t29, t30, t31, t32, t33, t34, t35, t36, t37, t38, t39, t40, t41, t42, t43, t44, t45, t46, t47, t48, t49, t50, t51, t52, t53, t54, t55, t56, t57, t58, t59, t60, t61, t62, t63, t64, t65, t66, t67, t68, t69, t70, t71, t72, t73, t74, t75, t76, t77, t78, t79, t80, t81, t82, t83, t84, t85, t86, t87, t88, t89, t90, t91, t92, t93, t94, t95, t96, t97, t98, t99, t100, t101, t102, t103, t104, t105, t106, t107, t108, t109, t110, t111, t112, t113, t114, t115, t116, t117, t118, t119, t120, t121, t122, t123, t124, t125, t126, t127, t128, t129, t130, t131, t132, t133, t134, t135, t136, t137, t138, t139, t140, t141, t142, t143, t144, t145, t146, t147, t148, t149, t150, t151, t152, t153, t154, t155, t156, t157, t158, t159, t160, t161, t162, t163, t164], defers := [] } w := by
  have BX := Lib.hid hx
  have BY := Lib.hid hy
  have q4 := eql4
  have q8 := eql8
  clear hx hy
  dsimp only [bodyOf, Try.f26, Option.getD_some, sndS, fstS]
  have c10 := BX.out.2 10 _ rfl
  have d10 := BY.out.2 10 _ rfl
  have c11 := BX.out.2 11 _ rfl
  have d11 := BY.out.2 11 _ rfl
  have c12 := BX.out.2 12 _ rfl
  have d12 := BY.out.2 12 _ rfl
  have c13 := BX.out.2 13 _ rfl
  have d13 := BY.out.2 13 _ rfl
  have c14 := BX.out.2 14 _ rfl
  have d14 := BY.out.2 14 _ rfl
  have c15 := BX.out.2 15 _ rfl
  have d15 := BY.out.2 15 _ rfl
  have c16 := BX.out.2 16 _ rfl
  have d16 := BY.out.2 16 _ rfl
  have c17 := BX.out.2 17 _ rfl
  have d17 := BY.out.2 17 _ rfl
  have c18 := BX.out.2 18 _ rfl
  have d18 := BY.out.2 18 _ rfl
  have c19 := BX.out.2 19 _ rfl
  have d19 := BY.out.2 19 _ rfl
  have c27 := BX.out.2 27 _ rfl
  have d27 := BY.out.2 27 _ rfl
  have c28 := BX.out.2 28 _ rfl
  have d28 := BY.out.2 28 _ rfl
  have c29 := BX.out.2 29 _ rfl
  have d29 := BY.out.2 29 _ rfl
  have c30 := BX.out.2 30 _ rfl
  have d30 := BY.out.2 30 _ rfl
  have c31 := BX.out.2 31 _ rfl
  have d31 := BY.out.2 31 _ rfl
  have c32 := BX.out.2 32 _ rfl
  have d32 := BY.out.2 32 _ rfl
  have c33 := BX.out.2 33 _ rfl
  have d33 := BY.out.2 33 _ rfl
  have c34 := BX.out.2 34 _ rfl
  have d34 := BY.out.2 34 _ rfl
  have c35 := BX.out.2 35 _ rfl
  have d35 := BY.out.2 35 _ rfl
  have c36 := BX.out.2 36 _ rfl
  have d36 := BY.out.2 36 _ rfl
  have c37 := BX.out.2 37 _ rfl
  have d37 := BY.out.2 37 _ rfl
  have c38 := BX.out.2 38 _ rfl
  have d38 := BY.out.2 38 _ rfl
  have c39 := BX.out.2 39 _ rfl
  have d39 := BY.out.2 39 _ rfl
  have c40 := BX.out.2 40 _ rfl
  have d40 := BY.out.2 40 _ rfl
  have c41 := BX.out.2 41 _ rfl
  have d41 := BY.out.2 41 _ rfl
  have c42 := BX.out.2 42 _ rfl
  have d42 := BY.out.2 42 _ rfl
  have rr0 : ∀ d w, (Op.equalIn (d + 4) 23 (.agg #[.int .i64 p.ckind, .string p.path, .string p.path2, .int .i64 p.flags, .int .i64 p.cfd, .int .i64 p.coff, .int .i64 p.cn, .string p.cdata]) (.agg #[.int .i64 q.ckind, .string q.path, .string q.path2, .int .i64 q.flags, .int .i64 q.cfd, .int .i64 q.coff, .int .i64 q.cn, .string q.cdata])).run Try.prog w = .ok (callB p q) w := fun d w => callB_run _ w p q
  have rr4 : ∀ d w, (Op.equalIn (d + 4) 33 (.agg #[.int .i64 p.nkind, .int .i64 p.nlinks, .int .i64 p.nsize, .int .i64 p.b0, .int .i64 p.b1, .int .i64 p.b2, .int .i64 p.b3, .int .i64 p.o0, .int .i64 p.o1, .int .i64 p.o2, .int .i64 p.o3, .int .i64 p.o4, .int .i64 p.o5, .int .i64 p.o6, .int .i64 p.o7]) (.agg #[.int .i64 q.nkind, .int .i64 q.nlinks, .int .i64 q.nsize, .int .i64 q.b0, .int .i64 q.b1, .int .i64 q.b2, .int .i64 q.b3, .int .i64 q.o0, .int .i64 q.o1, .int .i64 q.o2, .int .i64 q.o3, .int .i64 q.o4, .int .i64 q.o5, .int .i64 q.o6, .int .i64 q.o7])).run Try.prog w = .ok (nodeB p q) w := fun d w => nodeB_run _ w p q
  by_cases h0 : callB p q = true
  · have z0 : callB p q = true := h0
    have HE0 := Lib.hid h0
    clear h0
    by_cases h1 : decide (p.ino = q.ino) = true
    · have z1 : (p.ino == q.ino) = true := beq_iff_eq.2 (of_decide_eq_true h1)
      have HE1 := Lib.hid h1
      clear h1
      by_cases h2 : decide (p.errno = q.errno) = true
      · have z2 : (p.errno == q.errno) = true := beq_iff_eq.2 (of_decide_eq_true h2)
        have HE2 := Lib.hid h2
        clear h2
        by_cases h3 : decide (p.wrote = q.wrote) = true
        · have z3 : (p.wrote == q.wrote) = true := beq_iff_eq.2 (of_decide_eq_true h3)
          have HE3 := Lib.hid h3
          clear h3
          by_cases h4 : nodeB p q = true
          · have z4 : nodeB p q = true := h4
            have HE4 := Lib.hid h4
            clear h4
            go_wp2_with fail
            have e : rpcsB p q = true := by unfold rpcsB; rw [HE0.out, HE1.out, HE2.out, HE3.out, HE4.out]; rfl
            rw [e] at hK
            exact hK _ _ _ _ _ _ _ _ _ _ _ _ _ _ _ _ _ _ _ _ _ _ _ _ _ _ _ _ _ _ _ _ _
          · have z4 : nodeB p q = false := eq_false_of_ne_true h4
            have HE4 := Lib.hid (eq_false_of_ne_true h4)
            clear h4
            go_wp2_with fail
            have e : rpcsB p q = false := by unfold rpcsB; rw [HE0.out, HE1.out, HE2.out, HE3.out, HE4.out]; rfl
            rw [e] at hK
            exact hK _ _ _ _ _ _ _ _ _ _ _ _ _ _ _ _ _ _ _ _ _ _ _ _ _ _ _ _ _ _ _ _ _
        · have z3 : (p.wrote == q.wrote) = false := beq_eq_false_iff_ne.2 (fun e => h3 (decide_eq_true e))
          have HE3 := Lib.hid (eq_false_of_ne_true h3)
          clear h3
          go_wp2_with fail
          have e : rpcsB p q = false := by unfold rpcsB; rw [HE0.out, HE1.out, HE2.out, HE3.out]; rfl
          rw [e] at hK
          exact hK _ _ _ _ _ _ _ _ _ _ _ _ _ _ _ _ _ _ _ _ _ _ _ _ _ _ _ _ _ _ _ _ _
      · have z2 : (p.errno == q.errno) = false := beq_eq_false_iff_ne.2 (fun e => h2 (decide_eq_true e))
        have HE2 := Lib.hid (eq_false_of_ne_true h2)
        clear h2
        go_wp2_with fail
        have e : rpcsB p q = false := by unfold rpcsB; rw [HE0.out, HE1.out, HE2.out]; rfl
        rw [e] at hK
        exact hK _ _ _ _ _ _ _ _ _ _ _ _ _ _ _ _ _ _ _ _ _ _ _ _ _ _ _ _ _ _ _ _ _
    · have z1 : (p.ino == q.ino) = false := beq_eq_false_iff_ne.2 (fun e => h1 (decide_eq_true e))
      have HE1 := Lib.hid (eq_false_of_ne_true h1)
      clear h1
      go_wp2_with fail
      have e : rpcsB p q = false := by unfold rpcsB; rw [HE0.out, HE1.out]; rfl
      rw [e] at hK
      exact hK _ _ _ _ _ _ _ _ _ _ _ _ _ _ _ _ _ _ _ _ _ _ _ _ _ _ _ _ _ _ _ _ _
  · have z0 : callB p q = false := eq_false_of_ne_true h0
    have HE0 := Lib.hid (eq_false_of_ne_true h0)
    clear h0
    go_wp2_with fail
    have e : rpcsB p q = false := by unfold rpcsB; rw [HE0.out]; rfl
    rw [e] at hK
    exact hK _ _ _ _ _ _ _ _ _ _ _ _ _ _ _ _ _ _ _ _ _ _ _ _ _ _ _ _ _ _ _ _ _

set_option maxHeartbeats 8000000 in
set_option maxRecDepth 8000 in
theorem ws_replyB {w : World} {x : Nat} (p q : PK) (nv nv' : Value) (hx : Blk w x (p.cells nv)) (hy : Blk w (x + 1) (q.cells nv')) (t0 t1 t4 t5 t6 t7 t8 t9 t10 t11 t12 t13 t14 t15 t16 t17 t18 t19 t20 t21 t22 t23 t24 t25 t26 t27 t28 t29 t30 t31 t32 t33 t34 t35 t36 t37 t38 t39 t40 t41 t42 t43 t44 t45 t46 t47 t48 t49 t50 t51 t52 t53 t54 t55 t56 t57 t58 t59 t60 t61 t62 t63 t64 t65 t66 t67 t68 t69 t70 t71 t72 t73 t74 t75 t76 t77 t78 t79 t80 t81 t82 t83 t84 t85 t86 t87 t88 t89 t90 t91 t92 t93 t94 t95 t96 t97 t98 t99 t100 t101 t102 t103 t104 t105 t106 t107 t108 t109 t110 t111 t112 t113 t114 t115 t116 t117 t118 t119 t120 t121 t122 t123 t124 t125 t126 t127 t128 t129 t130 t131 t132 t133 t134 t135 t136 t137 t138 t139 t140 t141 t142 t143 t144 t145 t146 t147 t148 t149 t150 t151 t152 t153 t154 t155 t156 t157 t158 t159 t160 t161 t162 t163 t164 : Value) (Q : Exit → Act → World → Prop)
    (hK : ∀ u116 u117 u118 u119 u120 u121 u122 u123 u124 u125 u126 u127 u128 u129 u130 u131 u132 u133 u134 u135 u136 u137 u138 u139 u140 u141 u142 u143 u144 u145 u146 u147 u148 u149 : Value, Q .normal { tmps := #[t0, t1, .pointer (some ⟨x, 0, none⟩), .pointer (some ⟨x + 1, 0, none⟩), t4, t5, t6, t7, t8, t9, .bool (replyB p q), t11, t12, t13, t14, t15, t16, t17, t18, t19, t20, t21, t22, t23, t24, t25, t26, t27, t28, t29, t30, t31, t32, t33, t34, t35, t36, t37, t38, t39, t40, t41, t42, t43, t44, t45, t46, t47, t48, t49, t50, t51, t52, t53, t54, t55, t56, t57, t58, t59, t60, t61, t62, t63, t64, t65, t66, t67, t68, t69, t70, t71, t72, t73, t74, t75, t76, t77, t78, t79, t80, t81, t82, t83, t84, t85, t86, t87, t88, t89, t90, t91, t92, t93, t94, t95, t96, t97, t98, t99, t100, t101, t102, t103, t104, t105, t106, t107, t108, t109, t110, t111, t112, t113, t114, t115, u116, u117, u118, u119, u120, u121, u122, u123, u124, u125, u126, u127, u128, u129, u130, u131, u132, u133, u134, u135, u136, u137, u138, u139, u140, u141, u142, u143, u144, u145, u146, u147, u148, u149, t150, t151, t152, t153, t154, t155, t156, t157, t158, t159, t160, t161, t162, t163, t164], defers := [] } w) :
    Code.wp Try.prog (fstS (sndS (sndS (sndS (sndS (sndS (bodyOf Try.f26))))))) Q { tmps := #[t0, t1, .pointer (some ⟨x, 0, none⟩), .pointer (some ⟨x + 1, 0, none⟩), t4, t5, t6, t7, t8, t9, t10, t11, t12, t13, t14, t15, t16, t17, t18, t19, t20, t21, t22, t23, t24, t25, t26, t27, t28, t29, t30, t31, t32, t33, t34, t35, t36, t37, t38, t39, t40, t41, t42, t43, t44, t45, t46, t47, t48, t49, t50, t51, t52, t53, t54, t55, t56, t57, t58, t59, t60, t61, t62, t63, t64, t65, t66, t67, t68, t69, t70, t71, t72, t73, t74, t75, t76, t77, t78, t79, t80, t81, t82, t83, t84, t85, t86, t87, t88, t89, t90, t91, t92, t93, t94, t95, t96, t97, t98, t99, t100, t101, t102, t103, t104, t105, t106, t107, t108, t109, t110, t111, t112, t113, t114, t115, t116, t117, t118, t119, t120, t121, t122, t123, t124, t125, t126, t127, t128, t129, t130, t131, t132, t133, t134, t135, t136, t137, t138, t139, t140, t141, t142, t143, t144, t145, t146, t147, t148, t149, t150, t151, t152, t153, t154, t155, t156, t157, t158, t159, t160, t161, t162, t163, t164], defers := [] } w := by
  have BX := Lib.hid hx
  have BY := Lib.hid hy
  have q4 := eql4
  have q8 := eql8
  clear hx hy
  dsimp only [bodyOf, Try.f26, Option.getD_some, sndS, fstS]
  have c20 := BX.out.2 20 _ rfl
  have d20 := BY.out.2 20 _ rfl
  have c21 := BX.out.2 21 _ rfl
  have d21 := BY.out.2 21 _ rfl
  have c22 := BX.out.2 22 _ rfl
  have d22 := BY.out.2 22 _ rfl
  have c24 := BX.out.2 24 _ rfl
  have d24 := BY.out.2 24 _ rfl
  have c25 := BX.out.2 25 _ rfl
  have d25 := BY.out.2 25 _ rfl
  have c26 := BX.out.2 26 _ rfl
  have d26 := BY.out.2 26 _ rfl
  have rr3 : ∀ d w, (Op.equalIn (d + 4) 27 (.agg #[.int .i64 p.ikind, .int .i64 p.ilinks, .int .i64 p.isize]) (.agg #[.int .i64 q.ikind, .int .i64 q.ilinks, .int .i64 q.isize])).run Try.prog w = .ok (infoB p q) w := fun d w => infoB_run _ w p q
  by_cases h0 : decide (p.rerrno = q.rerrno) = true
  · have z0 : (p.rerrno == q.rerrno) = true := beq_iff_eq.2 (of_decide_eq_true h0)
    have HE0 := Lib.hid h0
    clear h0
    by_cases h1 : decide (p.rfd = q.rfd) = true
    · have z1 : (p.rfd == q.rfd) = true := beq_iff_eq.2 (of_decide_eq_true h1)
      have HE1 := Lib.hid h1
      clear h1
      by_cases h2 : decide (p.rdata = q.rdata) = true
      · have z2 : (p.rdata.toList == q.rdata.toList) = true := by rw [ba_beq]; exact h2
        have HE2 := Lib.hid h2
        clear h2
        by_cases h3 : infoB p q = true
        · have z3 : infoB p q = true := h3
          have HE3 := Lib.hid h3
          clear h3
          go_wp2_with fail
          have e : replyB p q = true := by unfold replyB; rw [HE0.out, HE1.out, HE2.out, HE3.out]; rfl
          rw [e] at hK
          exact hK _ _ _ _ _ _ _ _ _ _ _ _ _ _ _ _ _ _ _ _ _ _ _ _ _ _ _ _ _ _ _ _ _ _
        · have z3 : infoB p q = false := eq_false_of_ne_true h3
          have HE3 := Lib.hid (eq_false_of_ne_true h3)
          clear h3
          go_wp2_with fail
          have e : replyB p q = false := by unfold replyB; rw [HE0.out, HE1.out, HE2.out, HE3.out]; rfl
          rw [e] at hK
          exact hK _ _ _ _ _ _ _ _ _ _ _ _ _ _ _ _ _ _ _ _ _ _ _ _ _ _ _ _ _ _ _ _ _ _
      · have z2 : (p.rdata.toList == q.rdata.toList) = false := by rw [ba_beq]; exact eq_false_of_ne_true h2
        have HE2 := Lib.hid (eq_false_of_ne_true h2)
        clear h2
        go_wp2_with fail
        have e : replyB p q = false := by unfold replyB; rw [HE0.out, HE1.out, HE2.out]; rfl
        rw [e] at hK
        exact hK _ _ _ _ _ _ _ _ _ _ _ _ _ _ _ _ _ _ _ _ _ _ _ _ _ _ _ _ _ _ _ _ _ _
    · have z1 : (p.rfd == q.rfd) = false := beq_eq_false_iff_ne.2 (fun e => h1 (decide_eq_true e))
      have HE1 := Lib.hid (eq_false_of_ne_true h1)
      clear h1
      go_wp2_with fail
      have e : replyB p q = false := by unfold replyB; rw [HE0.out, HE1.out]; rfl
      rw [e] at hK
      exact hK _ _ _ _ _ _ _ _ _ _ _ _ _ _ _ _ _ _ _ _ _ _ _ _ _ _ _ _ _ _ _ _ _ _
  · have z0 : (p.rerrno == q.rerrno) = false := beq_eq_false_iff_ne.2 (fun e => h0 (decide_eq_true e))
    have HE0 := Lib.hid (eq_false_of_ne_true h0)
    clear h0
    go_wp2_with fail
    have e : replyB p q = false := by unfold replyB; rw [HE0.out]; rfl
    rw [e] at hK
    exact hK _ _ _ _ _ _ _ _ _ _ _ _ _ _ _ _ _ _ _ _ _ _ _ _ _ _ _ _ _ _ _ _ _ _

theorem RS.grow {w w' : World} {A : Option Addr} {n : Nat} {l : List ByteArray} (h : RS w A n l) (g : Grow w w') : RS w' A n l := ⟨h.1, (Rd.below h.2 g).more g.size⟩
theorem same_all (p q : PK) : (headB p q && verbsB p q && rpcsB p q && replyB p q && decide (p.names = q.names)) = decide (p = q) := by
  unfold headB verbsB rpcsB replyB callB nodeB infoB
  rw [Bool.eq_iff_iff]
  cases p
  cases q
  simp only [Bool.and_eq_true, decide_eq_true_iff, PK.mk.injEq]
  constructor
  · rintro ⟨⟨⟨⟨⟨⟨⟨⟨a1, a2⟩, a3⟩, a4⟩, a5⟩, ⟨⟨⟨b1, b2⟩, b3⟩, b4⟩, b5⟩, ⟨⟨⟨c1, c2⟩, c3⟩, c4⟩, c5⟩, ⟨⟨d1, d2⟩, d3⟩, d4⟩, e1⟩
    simp_all
  · intro h
    simp_all

set_option maxHeartbeats 8000000 in
set_option maxRecDepth 8000 in
theorem w_same {w : World} (p q : PK) {A A' : Option Addr} {c c' : Nat} (hp : RS w A p.names.length p.names) (hq : RS w A' q.names.length q.names) (hp3 : p.names.length ≤ 300) (hq3 : q.names.length ≤ 300) :
    Calls Try.prog 26 #[.agg #[.int .i64 p.kind, .int .i64 p.client, .int .i64 p.epoch, .int .i64 p.seq, .int .i64 p.op, .int .i64 p.at_, .int .i64 p.n, .string p.data, .int .i64 p.old, .int .i64 p.new, .int .i64 p.ckind, .string p.path, .string p.path2, .int .i64 p.flags, .int .i64 p.cfd, .int .i64 p.coff, .int .i64 p.cn, .string p.cdata, .int .i64 p.ino, .int .i64 p.errno, .int .i64 p.rerrno, .int .i64 p.rfd, .string p.rdata, .slice A p.names.length c, .int .i64 p.ikind, .int .i64 p.ilinks, .int .i64 p.isize, .int .i64 p.wrote, .int .i64 p.nkind, .int .i64 p.nlinks, .int .i64 p.nsize, .int .i64 p.b0, .int .i64 p.b1, .int .i64 p.b2, .int .i64 p.b3, .int .i64 p.o0, .int .i64 p.o1, .int .i64 p.o2, .int .i64 p.o3, .int .i64 p.o4, .int .i64 p.o5, .int .i64 p.o6, .int .i64 p.o7], .agg #[.int .i64 q.kind, .int .i64 q.client, .int .i64 q.epoch, .int .i64 q.seq, .int .i64 q.op, .int .i64 q.at_, .int .i64 q.n, .string q.data, .int .i64 q.old, .int .i64 q.new, .int .i64 q.ckind, .string q.path, .string q.path2, .int .i64 q.flags, .int .i64 q.cfd, .int .i64 q.coff, .int .i64 q.cn, .string q.cdata, .int .i64 q.ino, .int .i64 q.errno, .int .i64 q.rerrno, .int .i64 q.rfd, .string q.rdata, .slice A' q.names.length c', .int .i64 q.ikind, .int .i64 q.ilinks, .int .i64 q.isize, .int .i64 q.wrote, .int .i64 q.nkind, .int .i64 q.nlinks, .int .i64 q.nsize, .int .i64 q.b0, .int .i64 q.b1, .int .i64 q.b2, .int .i64 q.b3, .int .i64 q.o0, .int .i64 q.o1, .int .i64 q.o2, .int .i64 q.o3, .int .i64 q.o4, .int .i64 q.o5, .int .i64 q.o6, .int .i64 q.o7]] w fun e w' => e = .returned (.bool (decide (p = q))) ∧ Grow w w' := by
  obtain ⟨m, hm⟩ : ∃ m, m = p.names.length := ⟨_, rfl⟩
  obtain ⟨m', hm'⟩ : ∃ m, m = q.names.length := ⟨_, rfl⟩
  rw [← hm] at hp hp3 ⊢
  rw [← hm'] at hq hq3 ⊢
  clear hm hm'
  have q4 := eql4
  have q8 := eql8
  go_enter Try.func26, Try.ntmps26
  go_upto_region 1 with (fail)
  have G2 := ((Grow.refl w).alloc (.cells #[.int .i64 p.kind, .int .i64 p.client, .int .i64 p.epoch, .int .i64 p.seq, .int .i64 p.op, .int .i64 p.at_, .int .i64 p.n, .string p.data, .int .i64 p.old, .int .i64 p.new, .int .i64 p.ckind, .string p.path, .string p.path2, .int .i64 p.flags, .int .i64 p.cfd, .int .i64 p.coff, .int .i64 p.cn, .string p.cdata, .int .i64 p.ino, .int .i64 p.errno, .int .i64 p.rerrno, .int .i64 p.rfd, .string p.rdata, .slice A m c, .int .i64 p.ikind, .int .i64 p.ilinks, .int .i64 p.isize, .int .i64 p.wrote, .int .i64 p.nkind, .int .i64 p.nlinks, .int .i64 p.nsize, .int .i64 p.b0, .int .i64 p.b1, .int .i64 p.b2, .int .i64 p.b3, .int .i64 p.o0, .int .i64 p.o1, .int .i64 p.o2, .int .i64 p.o3, .int .i64 p.o4, .int .i64 p.o5, .int .i64 p.o6, .int .i64 p.o7] 35)).alloc (.cells #[.int .i64 q.kind, .int .i64 q.client, .int .i64 q.epoch, .int .i64 q.seq, .int .i64 q.op, .int .i64 q.at_, .int .i64 q.n, .string q.data, .int .i64 q.old, .int .i64 q.new, .int .i64 q.ckind, .string q.path, .string q.path2, .int .i64 q.flags, .int .i64 q.cfd, .int .i64 q.coff, .int .i64 q.cn, .string q.cdata, .int .i64 q.ino, .int .i64 q.errno, .int .i64 q.rerrno, .int .i64 q.rfd, .string q.rdata, .slice A' m' c', .int .i64 q.ikind, .int .i64 q.ilinks, .int .i64 q.isize, .int .i64 q.wrote, .int .i64 q.nkind, .int .i64 q.nlinks, .int .i64 q.nsize, .int .i64 q.b0, .int .i64 q.b1, .int .i64 q.b2, .int .i64 q.b3, .int .i64 q.o0, .int .i64 q.o1, .int .i64 q.o2, .int .i64 q.o3, .int .i64 q.o4, .int .i64 q.o5, .int .i64 q.o6, .int .i64 q.o7] 35)
  have BX := Lib.hid ((Blk.new w 35 (p.cells (.slice A m c)) #[.int .i64 p.kind, .int .i64 p.client, .int .i64 p.epoch, .int .i64 p.seq, .int .i64 p.op, .int .i64 p.at_, .int .i64 p.n, .string p.data, .int .i64 p.old, .int .i64 p.new, .int .i64 p.ckind, .string p.path, .string p.path2, .int .i64 p.flags, .int .i64 p.cfd, .int .i64 p.coff, .int .i64 p.cn, .string p.cdata, .int .i64 p.ino, .int .i64 p.errno, .int .i64 p.rerrno, .int .i64 p.rfd, .string p.rdata, .slice A m c, .int .i64 p.ikind, .int .i64 p.ilinks, .int .i64 p.isize, .int .i64 p.wrote, .int .i64 p.nkind, .int .i64 p.nlinks, .int .i64 p.nsize, .int .i64 p.b0, .int .i64 p.b1, .int .i64 p.b2, .int .i64 p.b3, .int .i64 p.o0, .int .i64 p.o1, .int .i64 p.o2, .int .i64 p.o3, .int .i64 p.o4, .int .i64 p.o5, .int .i64 p.o6, .int .i64 p.o7] (0, 0) rfl).keep ((Grow.refl _).alloc (.cells #[.int .i64 q.kind, .int .i64 q.client, .int .i64 q.epoch, .int .i64 q.seq, .int .i64 q.op, .int .i64 q.at_, .int .i64 q.n, .string q.data, .int .i64 q.old, .int .i64 q.new, .int .i64 q.ckind, .string q.path, .string q.path2, .int .i64 q.flags, .int .i64 q.cfd, .int .i64 q.coff, .int .i64 q.cn, .string q.cdata, .int .i64 q.ino, .int .i64 q.errno, .int .i64 q.rerrno, .int .i64 q.rfd, .string q.rdata, .slice A' m' c', .int .i64 q.ikind, .int .i64 q.ilinks, .int .i64 q.isize, .int .i64 q.wrote, .int .i64 q.nkind, .int .i64 q.nlinks, .int .i64 q.nsize, .int .i64 q.b0, .int .i64 q.b1, .int .i64 q.b2, .int .i64 q.b3, .int .i64 q.o0, .int .i64 q.o1, .int .i64 q.o2, .int .i64 q.o3, .int .i64 q.o4, .int .i64 q.o5, .int .i64 q.o6, .int .i64 q.o7] 35)))
  have BY := Lib.hid (show Blk _ (w.heap.size + 1) _ by
    have := Blk.new (w.alloc (.cells #[.int .i64 p.kind, .int .i64 p.client, .int .i64 p.epoch, .int .i64 p.seq, .int .i64 p.op, .int .i64 p.at_, .int .i64 p.n, .string p.data, .int .i64 p.old, .int .i64 p.new, .int .i64 p.ckind, .string p.path, .string p.path2, .int .i64 p.flags, .int .i64 p.cfd, .int .i64 p.coff, .int .i64 p.cn, .string p.cdata, .int .i64 p.ino, .int .i64 p.errno, .int .i64 p.rerrno, .int .i64 p.rfd, .string p.rdata, .slice A m c, .int .i64 p.ikind, .int .i64 p.ilinks, .int .i64 p.isize, .int .i64 p.wrote, .int .i64 p.nkind, .int .i64 p.nlinks, .int .i64 p.nsize, .int .i64 p.b0, .int .i64 p.b1, .int .i64 p.b2, .int .i64 p.b3, .int .i64 p.o0, .int .i64 p.o1, .int .i64 p.o2, .int .i64 p.o3, .int .i64 p.o4, .int .i64 p.o5, .int .i64 p.o6, .int .i64 p.o7] 35)) 35 (q.cells (.slice A' m' c')) #[.int .i64 q.kind, .int .i64 q.client, .int .i64 q.epoch, .int .i64 q.seq, .int .i64 q.op, .int .i64 q.at_, .int .i64 q.n, .string q.data, .int .i64 q.old, .int .i64 q.new, .int .i64 q.ckind, .string q.path, .string q.path2, .int .i64 q.flags, .int .i64 q.cfd, .int .i64 q.coff, .int .i64 q.cn, .string q.cdata, .int .i64 q.ino, .int .i64 q.errno, .int .i64 q.rerrno, .int .i64 q.rfd, .string q.rdata, .slice A' m' c', .int .i64 q.ikind, .int .i64 q.ilinks, .int .i64 q.isize, .int .i64 q.wrote, .int .i64 q.nkind, .int .i64 q.nlinks, .int .i64 q.nsize, .int .i64 q.b0, .int .i64 q.b1, .int .i64 q.b2, .int .i64 q.b3, .int .i64 q.o0, .int .i64 q.o1, .int .i64 q.o2, .int .i64 q.o3, .int .i64 q.o4, .int .i64 q.o5, .int .i64 q.o6, .int .i64 q.o7] (0, 0) rfl
    rwa [show (w.alloc (.cells #[.int .i64 p.kind, .int .i64 p.client, .int .i64 p.epoch, .int .i64 p.seq, .int .i64 p.op, .int .i64 p.at_, .int .i64 p.n, .string p.data, .int .i64 p.old, .int .i64 p.new, .int .i64 p.ckind, .string p.path, .string p.path2, .int .i64 p.flags, .int .i64 p.cfd, .int .i64 p.coff, .int .i64 p.cn, .string p.cdata, .int .i64 p.ino, .int .i64 p.errno, .int .i64 p.rerrno, .int .i64 p.rfd, .string p.rdata, .slice A m c, .int .i64 p.ikind, .int .i64 p.ilinks, .int .i64 p.isize, .int .i64 p.wrote, .int .i64 p.nkind, .int .i64 p.nlinks, .int .i64 p.nsize, .int .i64 p.b0, .int .i64 p.b1, .int .i64 p.b2, .int .i64 p.b3, .int .i64 p.o0, .int .i64 p.o1, .int .i64 p.o2, .int .i64 p.o3, .int .i64 p.o4, .int .i64 p.o5, .int .i64 p.o6, .int .i64 p.o7] 35)).heap.size = w.heap.size + 1 by simp] at this)
  obtain ⟨w2, hw2⟩ : ∃ z, z = (w.alloc (.cells #[.int .i64 p.kind, .int .i64 p.client, .int .i64 p.epoch, .int .i64 p.seq, .int .i64 p.op, .int .i64 p.at_, .int .i64 p.n, .string p.data, .int .i64 p.old, .int .i64 p.new, .int .i64 p.ckind, .string p.path, .string p.path2, .int .i64 p.flags, .int .i64 p.cfd, .int .i64 p.coff, .int .i64 p.cn, .string p.cdata, .int .i64 p.ino, .int .i64 p.errno, .int .i64 p.rerrno, .int .i64 p.rfd, .string p.rdata, .slice A m c, .int .i64 p.ikind, .int .i64 p.ilinks, .int .i64 p.isize, .int .i64 p.wrote, .int .i64 p.nkind, .int .i64 p.nlinks, .int .i64 p.nsize, .int .i64 p.b0, .int .i64 p.b1, .int .i64 p.b2, .int .i64 p.b3, .int .i64 p.o0, .int .i64 p.o1, .int .i64 p.o2, .int .i64 p.o3, .int .i64 p.o4, .int .i64 p.o5, .int .i64 p.o6, .int .i64 p.o7] 35)).alloc (.cells #[.int .i64 q.kind, .int .i64 q.client, .int .i64 q.epoch, .int .i64 q.seq, .int .i64 q.op, .int .i64 q.at_, .int .i64 q.n, .string q.data, .int .i64 q.old, .int .i64 q.new, .int .i64 q.ckind, .string q.path, .string q.path2, .int .i64 q.flags, .int .i64 q.cfd, .int .i64 q.coff, .int .i64 q.cn, .string q.cdata, .int .i64 q.ino, .int .i64 q.errno, .int .i64 q.rerrno, .int .i64 q.rfd, .string q.rdata, .slice A' m' c', .int .i64 q.ikind, .int .i64 q.ilinks, .int .i64 q.isize, .int .i64 q.wrote, .int .i64 q.nkind, .int .i64 q.nlinks, .int .i64 q.nsize, .int .i64 q.b0, .int .i64 q.b1, .int .i64 q.b2, .int .i64 q.b3, .int .i64 q.o0, .int .i64 q.o1, .int .i64 q.o2, .int .i64 q.o3, .int .i64 q.o4, .int .i64 q.o5, .int .i64 q.o6, .int .i64 q.o7] 35) := ⟨_, rfl⟩
  obtain ⟨x, hx⟩ : ∃ z, z = w.heap.size := ⟨_, rfl⟩
  rw [← hw2] at G2 BX BY ⊢
  have HK := Lib.hid (show RS w2 A m p.names from hp.grow G2)
  have HL := Lib.hid (show RS w2 A' m' q.names from hq.grow G2)
  have HG := Lib.hid G2
  rw [← hx] at BX BY ⊢
  obtain ⟨P0, hP0⟩ : ∃ z, z = Value.agg #[.int .i64 p.kind, .int .i64 p.client, .int .i64 p.epoch, .int .i64 p.seq, .int .i64 p.op, .int .i64 p.at_, .int .i64 p.n, .string p.data, .int .i64 p.old, .int .i64 p.new, .int .i64 p.ckind, .string p.path, .string p.path2, .int .i64 p.flags, .int .i64 p.cfd, .int .i64 p.coff, .int .i64 p.cn, .string p.cdata, .int .i64 p.ino, .int .i64 p.errno, .int .i64 p.rerrno, .int .i64 p.rfd, .string p.rdata, .slice A m c, .int .i64 p.ikind, .int .i64 p.ilinks, .int .i64 p.isize, .int .i64 p.wrote, .int .i64 p.nkind, .int .i64 p.nlinks, .int .i64 p.nsize, .int .i64 p.b0, .int .i64 p.b1, .int .i64 p.b2, .int .i64 p.b3, .int .i64 p.o0, .int .i64 p.o1, .int .i64 p.o2, .int .i64 p.o3, .int .i64 p.o4, .int .i64 p.o5, .int .i64 p.o6, .int .i64 p.o7] := ⟨_, rfl⟩
  obtain ⟨Q0, hQ0⟩ : ∃ z, z = Value.agg #[.int .i64 q.kind, .int .i64 q.client, .int .i64 q.epoch, .int .i64 q.seq, .int .i64 q.op, .int .i64 q.at_, .int .i64 q.n, .string q.data, .int .i64 q.old, .int .i64 q.new, .int .i64 q.ckind, .string q.path, .string q.path2, .int .i64 q.flags, .int .i64 q.cfd, .int .i64 q.coff, .int .i64 q.cn, .string q.cdata, .int .i64 q.ino, .int .i64 q.errno, .int .i64 q.rerrno, .int .i64 q.rfd, .string q.rdata, .slice A' m' c', .int .i64 q.ikind, .int .i64 q.ilinks, .int .i64 q.isize, .int .i64 q.wrote, .int .i64 q.nkind, .int .i64 q.nlinks, .int .i64 q.nsize, .int .i64 q.b0, .int .i64 q.b1, .int .i64 q.b2, .int .i64 q.b3, .int .i64 q.o0, .int .i64 q.o1, .int .i64 q.o2, .int .i64 q.o3, .int .i64 q.o4, .int .i64 q.o5, .int .i64 q.o6, .int .i64 q.o7] := ⟨_, rfl⟩
  rw [← hP0, ← hQ0]
  clear hw2 hp hq G2 hx hP0 hQ0
  have c23 := BX.out.2 23 _ rfl
  have d23 := BY.out.2 23 _ rfl
  go_quiet (fail)
  obtain ⟨w3, hw3⟩ : ∃ z, z = w2.drewN nq := ⟨_, rfl⟩
  have g3 : Grow w2 w3 := by rw [hw3]; exact (Grow.refl _).drewN _
  rw [← hw3]
  replace BX := Lib.hid (BX.out.keep g3)
  replace BY := Lib.hid (BY.out.keep g3)
  replace HK := Lib.hid (HK.out.grow g3)
  replace HL := Lib.hid (HL.out.grow g3)
  replace HG := Lib.hid (HG.out.trans g3)
  clear c23 d23 hw3 g3
  go_upto_region 2 with (fail)
  refine ws_headB p q _ _ BX.out BY.out _ _ _ _ _ _ _ _ _ _ _ _ _ _ _ _ _ _ _ _ _ _ _ _ _ _ _ _ _ _ _ _ _ _ _ _ _ _ _ _ _ _ _ _ _ _ _ _ _ _ _ _ _ _ _ _ _ _ _ _ _ _ _ _ _ _ _ _ _ _ _ _ _ _ _ _ _ _ _ _ _ _ _ _ _ _ _ _ _ _ _ _ _ _ _ _ _ _ _ _ _ _ _ _ _ _ _ _ _ _ _ _ _ _ _ _ _ _ _ _ _ _ _ _ _ _ _ _ _ _ _ _ _ _ _ _ _ _ _ _ _ _ _ _ _ _ _ _ _ _ _ _ _ _ _ _ _ _ _ _ _ _ _ _ ?_
  intro u17 u18 u19 u20 u21 u22 u23 u24 u25 u26 u27 u28 u29 u30 u31 u32 u33 u34 u35 u36 u37 u38 u39 u40 u41 u42 u43 u44 u45 u46 u47 u48 u49
  go_upto_region 3 with (fail)
  refine ws_verbsB p q _ _ BX.out BY.out _ _ _ _ _ _ _ _ _ _ _ _ _ _ _ _ _ _ _ _ _ _ _ _ _ _ _ _ _ _ _ _ _ _ _ _ _ _ _ _ _ _ _ _ _ _ _ _ _ _ _ _ _ _ _ _ _ _ _ _ _ _ _ _ _ _ _ _ _ _ _ _ _ _ _ _ _ _ _ _ _ _ _ _ _ _ _ _ _ _ _ _ _ _ _ _ _ _ _ _ _ _ _ _ _ _ _ _ _ _ _ _ _ _ _ _ _ _ _ _ _ _ _ _ _ _ _ _ _ _ _ _ _ _ _ _ _ _ _ _ _ _ _ _ _ _ _ _ _ _ _ _ _ _ _ _ _ _ _ _ _ _ _ _ ?_
  intro u50 u51 u52 u53 u54 u55 u56 u57 u58 u59 u60 u61 u62 u63 u64 u65 u66 u67 u68 u69 u70 u71 u72 u73 u74 u75 u76 u77 u78 u79 u80 u81 u82
  go_upto_region 4 with (fail)
  refine ws_rpcsB p q _ _ BX.out BY.out _ _ _ _ _ _ _ _ _ _ _ _ _ _ _ _ _ _ _ _ _ _ _ _ _ _ _ _ _ _ _ _ _ _ _ _ _ _ _ _ _ _ _ _ _ _ _ _ _ _ _ _ _ _ _ _ _ _ _ _ _ _ _ _ _ _ _ _ _ _ _ _ _ _ _ _ _ _ _ _ _ _ _ _ _ _ _ _ _ _ _ _ _ _ _ _ _ _ _ _ _ _ _ _ _ _ _ _ _ _ _ _ _ _ _ _ _ _ _ _ _ _ _ _ _ _ _ _ _ _ _ _ _ _ _ _ _ _ _ _ _ _ _ _ _ _ _ _ _ _ _ _ _ _ _ _ _ _ _ _ _ _ _ _ ?_
  intro u83 u84 u85 u86 u87 u88 u89 u90 u91 u92 u93 u94 u95 u96 u97 u98 u99 u100 u101 u102 u103 u104 u105 u106 u107 u108 u109 u110 u111 u112 u113 u114 u115
  go_upto_region 5 with (fail)
  refine ws_replyB p q _ _ BX.out BY.out _ _ _ _ _ _ _ _ _ _ _ _ _ _ _ _ _ _ _ _ _ _ _ _ _ _ _ _ _ _ _ _ _ _ _ _ _ _ _ _ _ _ _ _ _ _ _ _ _ _ _ _ _ _ _ _ _ _ _ _ _ _ _ _ _ _ _ _ _ _ _ _ _ _ _ _ _ _ _ _ _ _ _ _ _ _ _ _ _ _ _ _ _ _ _ _ _ _ _ _ _ _ _ _ _ _ _ _ _ _ _ _ _ _ _ _ _ _ _ _ _ _ _ _ _ _ _ _ _ _ _ _ _ _ _ _ _ _ _ _ _ _ _ _ _ _ _ _ _ _ _ _ _ _ _ _ _ _ _ _ _ _ _ _ ?_
  intro u116 u117 u118 u119 u120 u121 u122 u123 u124 u125 u126 u127 u128 u129 u130 u131 u132 u133 u134 u135 u136 u137 u138 u139 u140 u141 u142 u143 u144 u145 u146 u147 u148 u149
  have HALL := Lib.hid (same_all p q)
  obtain ⟨b0, hb0⟩ : ∃ z, z = headB p q := ⟨_, rfl⟩
  rw [← hb0]
  rw [← hb0] at HALL
  clear hb0
  obtain ⟨b1, hb1⟩ : ∃ z, z = verbsB p q := ⟨_, rfl⟩
  rw [← hb1]
  rw [← hb1] at HALL
  clear hb1
  obtain ⟨b2, hb2⟩ : ∃ z, z = rpcsB p q := ⟨_, rfl⟩
  rw [← hb2]
  rw [← hb2] at HALL
  clear hb2
  obtain ⟨b3, hb3⟩ : ∃ z, z = replyB p q := ⟨_, rfl⟩
  rw [← hb3]
  rw [← hb3] at HALL
  clear hb3
  cases b0 with
  | false =>
    go_wp2_with fail
    go_ret
    exact ⟨ret_bool (by rw [← HALL.out]; simp), HG.out⟩
  | true =>
    cases b1 with
    | false =>
      go_wp2_with fail
      go_ret
      exact ⟨ret_bool (by rw [← HALL.out]; simp), HG.out⟩
    | true =>
      cases b2 with
      | false =>
        go_wp2_with fail
        go_ret
        exact ⟨ret_bool (by rw [← HALL.out]; simp), HG.out⟩
      | true =>
        cases b3 with
        | false =>
          go_wp2_with fail
          go_ret
          exact ⟨ret_bool (by rw [← HALL.out]; simp), HG.out⟩
        | true =>
          go_wp2_with fail
          refine (names_equal HK.out HL.out (by omega) (by omega)).mono ?_
          rintro e w4 ⟨rfl, j, rfl⟩
          go_wp2_with fail
          go_ret
          exact ⟨ret_bool (by rw [← HALL.out]; simp), HG.out.drewN _⟩
end Go.Proofs.Ytgjcpchlijpjmaa
