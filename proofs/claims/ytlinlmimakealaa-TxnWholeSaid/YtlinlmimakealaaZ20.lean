/- A transaction and the document's, side by side. commonslaw09.does: what it leaves. commonslaw09.lives. No statement of the seat is proved here. -/
import Derived.Test.YtlinlmimakealaaZ18
import Derived.Test.YtlinlmimakealaaZ19
import Derived.Test.YtlinlmimakealaaZ17
import Derived.Test.YtlinlmimakealaaZ16
import Derived.Deep.DeepCutAuto
import Derived.Deep.RegionHeld3
import Derived.Lib.SlBytesConst
namespace Go.Proofs.Ytlinlmimakealaa
open Go.RowKit

structure PY (w : World) (base pb l t dl d : Nat) (x y : MB) (s : MS) (L : List PT) (v v' : Value) : Prop where
  tx : TX w base t l x s L v
  rx : RX w base d dl y s L v'
  ap : ∀ k, TF t x v k → ¬ TF d y v' k
  xd : ¬ TF t x v dl
  yl : ¬ TF d y v' l
  blk : Blk w pb [.pointer (some ⟨x.p, 0, none⟩), .pointer (some ⟨l, 0, none⟩), .pointer (some ⟨t, 0, none⟩), .pointer (some ⟨y.p, 0, none⟩), .pointer (some ⟨d, 0, none⟩)]
  xp : ¬ TF t x v pb
  yp : ¬ TF d y v' pb
  xb : ∀ k, TF t x v k → base ≤ k
  yb : ∀ k, TF d y v' k → base ≤ k
/-- The blocks of both that may turn. -/
def PF (t d : Nat) (x y : MB) (v v' : Value) (k : Nat) : Prop := TF t x v k ∨ TF d y v' k
section
variable {w w' w1 w2 : World} {base pb l t dl d : Nat} {x x' y : MB} {s s' : MS} {L L' : List PT} {v v' v1 v2 : Value} {F : Nat → Prop}
theorem PY.keep (h : PY w base pb l t dl d x y s L v v') (g : Grow w w') : PY w' base pb l t dl d x y s L v v' := ⟨h.tx.keep g, h.rx.keep g, h.ap, h.xd, h.yl, h.blk.keep g, h.xp, h.yp, h.xb, h.yb⟩
theorem PY.turn (h : PY w base pb l t dl d x y s L v v') (k : Turn F w w') (hF : ∀ i, F i → ¬ PF t d x y v v' i ∧ i ≠ l ∧ i ≠ dl ∧ i ≠ pb) : PY w' base pb l t dl d x y s L v v' :=
  ⟨h.tx.turn k fun i q => ⟨fun z => (hF i q).1 (.inl z), (hF i q).2.1⟩, h.rx.turn k fun i q => ⟨fun z => (hF i q).1 (.inr z), (hF i q).2.2.1⟩, h.ap, h.xd, h.yl, h.blk.turn k (fun q => (hF pb q).2.2.2 rfl), h.xp, h.yp, h.xb, h.yb⟩
theorem PY.rx1 (h : PY w base pb l t dl d x y s L v v') (t1 : Turn (TF t x v) w w1) : RX w1 base d dl y s L v' := h.rx.turn t1 fun k q => ⟨h.ap k q, fun e => h.xd (e ▸ q)⟩
theorem PY.blk1 (h : PY w base pb l t dl d x y s L v v') (t1 : Turn (TF t x v) w w1) : Blk w1 pb [.pointer (some ⟨x.p, 0, none⟩), .pointer (some ⟨l, 0, none⟩), .pointer (some ⟨t, 0, none⟩), .pointer (some ⟨y.p, 0, none⟩), .pointer (some ⟨d, 0, none⟩)] := h.blk.turn t1 h.xp
theorem PY.ok (h : PY w base pb l t dl d x y s L v v') : s.ok := h.tx.ok
theorem PY.lt (h : PY w base pb l t dl d x y s L v v') : ∀ k, PF t d x y v v' k → k < w.heap.size := fun k q => q.elim (h.tx.tfl k) (h.rx.tfl k)
theorem PY.lb (h : PY w base pb l t dl d x y s L v v') : ∀ k, PF t d x y v v' k → base ≤ k := fun k q => q.elim (h.xb k) (h.yb k)
/-- A verb of the one, then of the other. -/
theorem PY.both (h : PY w base pb l t dl d x y s L v v') (hb : base ≤ w.heap.size) (hx : x'.p = x.p) (h1 : TX w1 base t l x' s' L' v1) (t1 : Turn (TF t x v) w w1) (n1 : ∀ k, TF t x' v1 k → TF t x v k ∨ w.heap.size ≤ k)
    (h2 : RX w2 base d dl y s' L' v2) (t2 : Turn (TF d y v') w1 w2) (n2 : ∀ k, TF d y v2 k → TF d y v' k ∨ w1.heap.size ≤ k) :
    PY w2 base pb l t dl d x' y s' L' v1 v2 ∧ Turn (PF t d x y v v') w w2 ∧ ∀ k, PF t d x' y v1 v2 k → PF t d x y v v' k ∨ w.heap.size ≤ k := by
  have z1 := t1.size
  have z2 := t2.size
  have hl := h.tx.lg.2.1.1
  have hd := h.rx.lg.2.1.1
  have hp := h.blk.1
  have hy := h.rx.tfl
  have hxl := h.tx.tfl
  have hx1 := h1.tfl
  refine ⟨⟨h1.turn t2 fun k q => ⟨fun z => ?_, fun e => h.yl (e ▸ q)⟩, h2, fun k q z => ?_, fun q => ?_, fun q => ?_, ?_, fun q => ?_, fun q => ?_, fun k q => ?_, fun k q => ?_⟩, (t1.mono fun k q => .inl q).and (t2.mono fun k q => .inr q), fun k q => ?_⟩
  · rcases n1 k z with z | z
    · exact h.ap k z q
    · have := hy k q; omega
  · rcases n1 k q with q2 | q2 <;> rcases n2 k z with z2 | z2
    · exact h.ap k q2 z2
    · have := hxl k q2; omega
    · have := hy k z2; omega
    · have := hx1 k q; omega
  · rcases n1 _ q with q | q
    · exact h.xd q
    · omega
  · rcases n2 _ q with q | q
    · exact h.yl q
    · omega
  · rw [hx]; exact (h.blk1 t1).turn t2 h.yp
  · rcases n1 _ q with q | q
    · exact h.xp q
    · omega
  · rcases n2 _ q with q | q
    · exact h.yp q
    · omega
  · rcases n1 _ q with q | q
    · exact h.xb k q
    · omega
  · rcases n2 _ q with q | q
    · exact h.yb k q
    · omega
  · rcases q with q | q
    · exact (n1 k q).imp (fun z => .inl z) id
    · rcases n2 k q with q | q
      · exact .inl (.inr q)
      · right; omega
theorem TX.crash (h : TX w base t l x s L v) (t1 : Turn x.F w w1) (h1 : LG w1 l x' s') (hx : x'.p = x.p) (n : ∀ k, x'.F k → x.F k ∨ w.heap.size ≤ k) : TX w1 base t l x' s' L v := by
  have ht := h.blk.1.1
  have hl := h.lg.2.1.1
  refine ⟨h1, ?_, h.row.turn t1 (fun g hg => (h.vx g hg).1), fun q => ?_, h.tl, fun g hg => ⟨fun q => ?_, (h.vx g hg).2⟩, h.held⟩
  · rw [hx]; exact h.blk.turn t1 h.xt
  · rcases n _ q with q | q
    · exact h.xt q
    · omega
  · rcases n _ q with q | q
    · exact (h.vx g hg).1 q
    · have := (World.ownsRow.lt h.row g hg).2; omega
theorem tx_crash (h : TX w base t l x s L v) {B : Option Addr} {m c : Nat} {pk : List Int} (hs : RI w B m pk) (hB : 0 < m → ∀ p, B = some p → ¬ x.F p.block) :
    Calls Try.prog 21 #[.pointer (some ⟨x.p, 0, none⟩), .slice B m c] w fun e w' => e = .returned (.tuple #[]) ∧ ∃ x', x'.p = x.p ∧ TX w' base t l x' (s.crash pk) L v ∧ Turn x.F w w' ∧ ∀ k, x'.F k → x.F k ∨ w.heap.size ≤ k := by
  refine (pm_crash h.lg.1 hs hB).mono ?_
  rintro e w' ⟨rfl, g', hg, h5, t5⟩
  have hF : ∀ k, (⟨x.p, g', x.gt, x.b⟩ : MB).F k → x.F k ∨ w.heap.size ≤ k := by
    rintro k (q | q | q | q)
    · exact .inl (.inl q)
    · have q' : k = g' := q
      right; omega
    · exact .inl (.inr (.inr (.inl q)))
    · exact .inl (.inr (.inr (.inr q)))
  refine ⟨rfl, ⟨x.p, g', x.gt, x.b⟩, rfl, h.crash t5 ⟨h5, h.lg.2.1.turn t5 h.lg.2.2, fun q => ?_⟩ rfl hF, t5, hF⟩
  rcases hF _ q with q | q
  · exact h.lg.2.2 q
  · have := h.lg.2.1.1; omega
theorem rx_crash (h : RX w base t l x s L v) {B : Option Addr} {m c : Nat} {pk : List Int} (hs : RI w B m pk) (hB : 0 < m → ∀ p, B = some p → ¬ x.F p.block) (hw : ∀ p ∈ pk, -9223372036854775808 ≤ p ∧ p ≤ 9223372036854775807) :
    Calls Try.prog 50 #[.pointer (some ⟨x.p, 0, none⟩), .slice B m c] w fun e w' => e = .returned (.tuple #[]) ∧ RX w' base t l x (s.crash pk) L v ∧ Turn x.F w w' := by
  refine (rm_crash h.lg.1 hs hB hw).mono ?_
  rintro e w' ⟨rfl, h5, t5⟩
  exact ⟨rfl, h.mem ⟨h5, h.lg.2.1.turn t5 h.lg.2.2, h.lg.2.2⟩ t5, t5⟩
theorem tx_mstore (h : TX w base t l x s L v) {B : Option Addr} {m c : Nat} {bs : List UInt8} (hs : Sl w B m bs) (hB : 0 < m → ∀ p, B = some p → ¬ x.F p.block) (a : Int) :
    Calls Try.prog 17 #[.pointer (some ⟨x.p, 0, none⟩), .int .i64 a, .slice B m c] w fun e w' => e = .returned (.int .i64 (errV (inW 1024 a m))) ∧ TX w' base t l x (s.store a bs) L v ∧ Turn x.F w w' := by
  refine (pm_storeU h.lg.1 hs hB a).mono ?_
  rintro e w' ⟨rfl, h5, t5⟩
  have hl := hs.1
  refine ⟨rfl, h.mem ⟨?_, h.lg.2.1.turn t5 h.lg.2.2, h.lg.2.2⟩ t5, t5⟩
  simp only [MS.store]
  rw [hl]
  exact h5
theorem rx_mstore (h : RX w base t l x s L v) {B : Option Addr} {m c : Nat} {bs : List UInt8} (hs : Sl w B m bs) (hB : 0 < m → ∀ p, B = some p → ¬ x.F p.block) (a : Int) :
    Calls Try.prog 51 #[.pointer (some ⟨x.p, 0, none⟩), .int .i64 a, .slice B m c] w fun e w' => e = .returned (.int .i64 (errV (inW 1024 a m))) ∧ RX w' base t l x (s.store a bs) L v ∧ Turn x.F w w' := by
  refine (rm_storeU h.lg.1 hs hB a).mono ?_
  rintro e w' ⟨rfl, h5, t5⟩
  have hl := hs.1
  refine ⟨rfl, h.mem ⟨?_, h.lg.2.1.turn t5 h.lg.2.2, h.lg.2.2⟩ t5, t5⟩
  simp only [MS.store]
  rw [hl]
  exact h5
end
theorem txn_new (w : World) (p l : Nat) :
    Calls Try.prog 11 #[.pointer (some ⟨p, 0, none⟩), .pointer (some ⟨l, 0, none⟩)] w fun e w' => e = .returned (.pointer (some ⟨w.heap.size, 0, none⟩)) ∧ w' = w.alloc (.cells #[.pointer (some ⟨p, 0, none⟩), .pointer (some ⟨l, 0, none⟩), .slice none 0 0] 66) := by
  go_enter Try.func11, Try.ntmps11
  go_wp2_with fail
  go_ret
  exact ⟨rfl, rfl⟩
theorem txn_none (w : World) : Calls Try.prog 11 #[.pointer none, .pointer none] w fun e w' => e = .returned (.pointer none) ∧ w = w' := by
  go_enter Try.func11, Try.ntmps11
  go_wp2_with fail
  go_ret
  exact ⟨rfl, rfl⟩

set_option maxHeartbeats 4000000 in
set_option maxRecDepth 4000 in
theorem begin9 (w : World) : Calls Try.prog 8 #[] w fun e w' => ∃ pb l t dl d x y, e = .returned (.pointer (some ⟨pb, 0, none⟩)) ∧ PY w' w.heap.size pb l t dl d x y fresh [] (.slice none 0 0) (.slice none 0 0) ∧ w.heap.size ≤ pb ∧ w.heap.size ≤ l ∧ w.heap.size ≤ dl ∧ Grow w w' := by
  go_enter Try.func8, Try.ntmps8
  go_wp2_with fail
  refine (pm_new_yes 128 (by decide) w).mono ?_
  rintro e w1 ⟨x, rfl, hP, hx, g1⟩
  go_wp2_with fail
  refine (pl_new hP 512 512).mono ?_
  rintro e w2 (⟨hm, -, -⟩ | ⟨-, l, rfl, hl, hb, g2⟩)
  case inl => exact absurd hm (by decide)
  have hxl : ∀ k, x.F k → k < w1.heap.size := hP.lt
  have H2 : LG w2 l x fresh := ⟨hP.keep g2, hb, fun q => by have := hP.lt l q; omega⟩
  have hl2 : l < w2.heap.size := H2.2.1.1
  have G2 := g1.trans g2
  have hz1 := g1.size
  have hz2 := g2.size
  clear hP hb g1 g2
  go_wp2_with fail
  refine (txn_new w2 x.p l).mono ?_
  rintro e w3 ⟨rfl, hw3⟩
  have g3 : Grow w2 w3 := by rw [hw3]; exact (Grow.refl _).alloc _
  have R3 := Row.new w2 66 [.pointer (some ⟨x.p, 0, none⟩), .pointer (some ⟨l, 0, none⟩), .slice none 0 0] _ rfl
  rw [← hw3] at R3
  obtain ⟨t, ht⟩ : ∃ z, z = w2.heap.size := ⟨_, rfl⟩
  have hz3 : w3.heap.size = t + 1 := by rw [hw3, ht]; simp
  rw [← ht] at R3 hl2 ⊢
  have T3 : TX w3 w.heap.size t l x fresh [] (.slice none 0 0) := ⟨H2.keep g3, R3, OP.nil _ _, fun q => by have := hxl t q; omega, by omega, fun g hg => by (cases hg), Held.nil⟩
  have G3 := G2.trans g3
  clear H2 hw3 R3 G2 g3
  go_wp2_with fail
  refine (rm_new_yes 128 (by decide) w3).mono ?_
  rintro e w4 ⟨y, rfl, hR, hy, g4⟩
  have hyl : ∀ k, y.F k → k < w4.heap.size := hR.lt
  have hz4 := g4.size
  have T4 := Lib.hid (T3.keep g4)
  have HR := Lib.hid hR
  have HG4 := Lib.hid (G3.trans g4)
  have HX := Lib.hid (And.intro hx (And.intro hxl (And.intro hy hyl)))
  clear T3 hR G3 g4 hx hxl hy hyl
  go_wp2_with fail
  go_ret
  obtain ⟨hx, hxl, hy, hyl⟩ := HX.out
  obtain ⟨wA, hwA⟩ : ∃ z, z = w4.alloc (.cells #[.pointer (some ⟨y.p, 0, none⟩), .int .i64 512, .int .i64 512] 62) := ⟨_, rfl⟩
  obtain ⟨wB, hwB⟩ : ∃ z, z = wA.alloc (.cells #[.pointer (some ⟨y.p, 0, none⟩), .pointer (some ⟨w4.heap.size, 0, none⟩), .slice none 0 0] 64) := ⟨_, rfl⟩
  obtain ⟨wC, hwC⟩ : ∃ z, z = wB.alloc (.cells #[.pointer (some ⟨x.p, 0, none⟩), .pointer (some ⟨l, 0, none⟩), .pointer (some ⟨t, 0, none⟩), .pointer (some ⟨y.p, 0, none⟩), .pointer (some ⟨w4.heap.size + 1, 0, none⟩)] 32) := ⟨_, rfl⟩
  have sA : wA.heap.size = w4.heap.size + 1 := by rw [hwA]; simp
  have sB : wB.heap.size = w4.heap.size + 2 := by rw [hwB]; simp [sA]
  have sC : wC.heap.size = w4.heap.size + 3 := by rw [hwC]; simp [sB]
  have gA : Grow w4 wA := by rw [hwA]; exact (Grow.refl _).alloc _
  have gB : Grow wA wB := by rw [hwB]; exact (Grow.refl _).alloc _
  have gC : Grow wB wC := by rw [hwC]; exact (Grow.refl _).alloc _
  have BA := Blk.new w4 62 [.pointer (some ⟨y.p, 0, none⟩), .int .i64 512, .int .i64 512] _ (0, 0) rfl
  rw [← hwA] at BA
  have BB := Row.new wA 64 [.pointer (some ⟨y.p, 0, none⟩), .pointer (some ⟨w4.heap.size, 0, none⟩), .slice none 0 0] _ rfl
  rw [← hwB, sA] at BB
  have BC := Blk.new wB 32 [.pointer (some ⟨x.p, 0, none⟩), .pointer (some ⟨l, 0, none⟩), .pointer (some ⟨t, 0, none⟩), .pointer (some ⟨y.p, 0, none⟩), .pointer (some ⟨w4.heap.size + 1, 0, none⟩)] _ (0, 0) rfl
  rw [← hwC, sB] at BC
  have LA : RL wA w4.heap.size y fresh := ⟨HR.out.keep gA, BA, fun q => by have := hyl _ q; omega⟩
  have RB : RX wC w.heap.size (w4.heap.size + 1) w4.heap.size y fresh [] (.slice none 0 0) := ⟨(LA.keep gB).keep gC, BB.keep gC, OP.nil _ _, fun q => by have := hyl _ q; omega, by omega, fun g hg => by (cases hg), Held.nil⟩
  have TC := ((T4.out.keep gA).keep gB).keep gC
  have tfx : ∀ k, TF t x (.slice none 0 0) k → k < w3.heap.size ∧ w.heap.size ≤ k := by
    rintro k (q | q | q)
    · have := hxl k q; have := hx k q; omega
    · omega
    · cases q
  have tfy : ∀ k, TF (w4.heap.size + 1) y (.slice none 0 0) k → w3.heap.size ≤ k ∧ k ≠ w4.heap.size ∧ k ≠ w4.heap.size + 2 := by
    rintro k (q | q | q)
    · have := hyl k q; have := hy k q; omega
    · omega
    · cases q
  subst ht
  refine ⟨w4.heap.size + 2, l, w2.heap.size, w4.heap.size, w4.heap.size + 1, x, y, by first | rfl | simp, ?_, by omega, by omega, by omega, ?_⟩
  · have X : PY wC w.heap.size (w4.heap.size + 2) l w2.heap.size w4.heap.size (w4.heap.size + 1) x y fresh [] (.slice none 0 0) (.slice none 0 0) :=
      ⟨TC, RB, fun k q q2 => by have := tfx k q; have := tfy k q2; omega, fun q => by have := tfx _ q; omega, fun q => by have := tfy _ q; omega, BC, fun q => by have := tfx _ q; omega, fun q => by have := tfy _ q; omega, fun k q => (tfx k q).2, fun k q => by have := tfy k q; omega⟩
    rw [hwC, hwB, hwA] at X
    exact X
  · have X : Grow w wC := (((HG4.out.trans gA).trans gB).trans gC)
    rw [hwC, hwB, hwA] at X
    exact X
end Go.Proofs.Ytlinlmimakealaa

namespace Go.Proofs.Ytlinlmimakealaa
open Go.RowKit

/-- A deed's parts, as they are read; P: the blocks that the deed may turn. -/
structure DA9 (w : World) (P : Nat → Prop) (n : Int) (B : Option Addr) (m c : Nat) (bs : List UInt8) (Q : Option Addr) (q dq : Nat) (pk : List Int) : Prop where
  nb : -9223372036854775808 ≤ n ∧ n ≤ 9223372036854775807
  bytes : RB w w.heap.size B bs
  len : bs.length = m
  cap : m ≤ c
  picks : RI w Q q pk
  pcap : q ≤ dq
  pw : ∀ p ∈ pk, -9223372036854775808 ≤ p ∧ p ≤ 9223372036854775807
  ab : 0 < m → ∀ p, B = some p → ¬ P p.block
  aq : 0 < q → ∀ p, Q = some p → ¬ P p.block
/-- The bytes and the picks, cut. -/
structure DC9 (w : World) (P : Nat → Prop) (B : Option Addr) (m : Nat) (bs : List UInt8) (Q : Option Addr) (q : Nat) (pk : List Int) : Prop where
  bytes : Sl w B m bs
  picks : RI w Q q pk
  pw : ∀ p ∈ pk, -9223372036854775808 ≤ p ∧ p ≤ 9223372036854775807
  ab : 0 < m → ∀ p, B = some p → ¬ P p.block
  aq : 0 < q → ∀ p, Q = some p → ¬ P p.block
theorem DA9.cut {w : World} {P : Nat → Prop} {n : Int} {m c q dq : Nat} {B Q : Option Addr} {bs : List UInt8} {pk : List Int} (h : DA9 w P n B m c bs Q q dq pk) : DC9 w P B (min m 260) (bs.take (min m 260)) Q (min q 200) (pk.take (min q 200)) := by
  obtain ⟨-, h3, h4, h5, h6, h7, h8, h9, h10⟩ := h
  refine ⟨Sl.ofTake h3 (by omega) (by omega), h6.take (by omega), fun p hp => h8 p (List.mem_of_mem_take hp), fun h0 => h9 (by omega), fun h0 => h10 (by omega)⟩
theorem DC9.keep {w w' : World} {P : Nat → Prop} {m q : Nat} {B Q : Option Addr} {bs : List UInt8} {pk : List Int} (h : DC9 w P B m bs Q q pk) (g : Grow w w') : DC9 w' P B m bs Q q pk := ⟨h.bytes.keep g, h.picks.keep g, h.pw, h.ab, h.aq⟩
/-- What a deed leaves. -/
def Done9 (w w' : World) (base pb l t dl d px : Nat) (y : MB) (s : MS) (L : List PT) (P : Nat → Prop) : Prop :=
  ∃ (x' : MB) (v1 v2 : Value), x'.p = px ∧ PY w' base pb l t dl d x' y s L v1 v2 ∧ Turn P w w' ∧ ∀ k, PF t d x' y v1 v2 k → P k ∨ w.heap.size ≤ k
theorem PY.done {W w w2 : World} {base pb l t dl d : Nat} {x x' y : MB} {s : MS} {L : List PT} {v v' v1 v2 : Value} (g : Grow W w) (hx : x'.p = x.p)
    (h : PY w2 base pb l t dl d x' y s L v1 v2 ∧ Turn (PF t d x y v v') w w2 ∧ ∀ k, PF t d x' y v1 v2 k → PF t d x y v v' k ∨ w.heap.size ≤ k) : Done9 W w2 base pb l t dl d x.p y s L (PF t d x y v v') :=
  ⟨x', v1, v2, hx, h.1, (Turn.grow g _).and h.2.1, fun k q => (h.2.2 k q).imp id fun q => Nat.le_trans g.size q⟩
theorem tf_store {w : World} {t : Nat} {x : MB} {v v1 : Value} (h : v1.ownBlock = v.ownBlock ∨ ∃ g, v1.ownBlock = some g ∧ w.heap.size ≤ g) : ∀ k, TF t x v1 k → TF t x v k ∨ w.heap.size ≤ k := by
  rintro k (q | q | q)
  · exact .inl (.inl q)
  · exact .inl (.inr (.inl q))
  · rcases h with e | ⟨g, e, hg⟩
    · exact .inl (.inr (.inr (e ▸ q)))
    · rw [e] at q; injection q with q; subst q; exact .inr hg
theorem tf_drop {t : Nat} {x : MB} {v v1 : Value} (h : v1.ownBlock = none ∨ v1 = v) : ∀ k, TF t x v1 k → TF t x v k := by
  rintro k (q | q | q)
  · exact .inl q
  · exact .inr (.inl q)
  · rcases h with e | e
    · rw [e] at q; cases q
    · exact .inr (.inr (e ▸ q))
theorem tf_mem {t : Nat} {x : MB} {v : Value} {k : Nat} (q : x.F k) : TF t x v k := .inl q
end Go.Proofs.Ytlinlmimakealaa

namespace Go.Proofs.Ytlinlmimakealaa
open Go.RowKit

def pA : PT := ⟨3, ⟨#[97, 98]⟩⟩
def pB : PT := ⟨4, ⟨#[120]⟩⟩
theorem take_two {S : List UInt8} {i : Nat} (h : i + 1 < S.length) : (S.drop i).take 2 = [S.getD i 0, S.getD (i + 1) 0] := by
  rw [List.drop_eq_getElem_cons (by omega), List.drop_eq_getElem_cons h, List.getD_eq_getElem?_getD, List.getElem?_eq_getElem (by omega), List.getD_eq_getElem?_getD, List.getElem?_eq_getElem h]; rfl
theorem live9 : stL [] 3 [97, 98] = [pA] ∧ stL [pA] 4 [120] = [pA, pB] ∧ lodL fresh [pA, pB] 3 2 = [97, 120] ∧ (fresh.S.drop 3).take 2 = [0, 0] ∧ cmE fresh [pA, pB] = 0 ∧ ((cmS fresh [pA, pB]).T.drop 3).take 2 = [97, 120] := by
  have hl : (encP [pA, pB]).length = 24 := by rw [encP_length]; rfl
  have h0 : apE fresh.S [pA, pB] = 0 := apE_iff.2 ⟨by decide, by rw [fresh_log.2.2, hl]; omega⟩
  obtain ⟨h1, h2, h3, -⟩ := append_is fresh_ok (MS.still_cov fresh_still) h0
  rw [fresh_log.2.1, List.nil_append] at h3
  obtain ⟨r1, r2, r3⟩ := redo_is h1 (MS.still_cov h2)
  have hz : (fresh.S.drop 3).take 2 = [0, 0] := by rw [take_two (by rw [fresh_ok.S]; omega)]; rfl
  refine ⟨rfl, rfl, ?_, hz, ?_, ?_⟩
  · unfold lodL loadL
    rw [if_pos (by decide)]
    rw [show ((3 : Int).toNat) = 3 from rfl, show ((2 : Int).toNat) = 2 from rfl, hz]
    rfl
  · unfold cmE
    rw [if_neg (by decide), h0]
  · unfold cmS
    rw [if_neg (by decide), if_pos h0]
    rw [← show (fresh.append [pA, pB]).redo.S = (fresh.append [pA, pB]).redo.T from r2, take_two (by rw [r1.S]; omega), r3, h3]
    have e : [[pA, pB]].flatten.foldl patS (fresh.append [pA, pB]).S = putL (putL (fresh.append [pA, pB]).S 3 [97, 98]) 4 [120] := rfl
    have hS := h1.S
    rw [e, putL_get _ _ _ _ (by rw [putL_length, putL_length, hS]; decide), if_neg (by omega), putL_get _ _ _ _ (by rw [putL_length, hS]; decide), if_neg (by simp), putL_get _ _ _ _ (by rw [hS]; decide), if_pos (by decide)]
    rw [putL_get _ _ _ _ (by rw [putL_length, putL_length, hS]; decide), if_neg (by omega), putL_get _ _ _ _ (by rw [putL_length, hS]; decide), if_pos (by decide)]
    rfl
set_option maxHeartbeats 4000000 in
set_option maxRecDepth 4000 in
theorem lives9 (w : World) : Calls Try.prog 12 #[] w fun e w' => e = .returned (.bool true) ∧ Grow w w' := by
  have HL := Lib.hid live9
  have kc := fun (w : World) (C : Array Value) (n c : Nat) => Lib.run_convert_bytes_const (P := Try.prog) w 22 5 C n c Try.underlying22 Try.underlying5
  go_enter Try.func12, Try.ntmps12
  go_wp2_with fail
  refine (begin9 w).mono ?_
  rintro e w1 ⟨pb, l, t, dl, d, x, y, rfl, hp, hpb, hl, hdl, g1⟩
  have HP := Lib.hid hp
  have HG := Lib.hid g1
  have hz := g1.size
  have b2 := hp.blk.c5.2.2.1
  clear hp g1
  go_wp2_with fail
  refine (tx_store (w := w1.alloc (.cells #[.int .u8 97, .int .u8 98] 5 (2, 3))) (HP.out.tx.keep ((Grow.refl _).alloc _)) (by simp; omega) (Sl.litf w1 _ _ _ [97, 98] 2 rfl rfl (by omega)) (fun h0 p hp => ?_) 3).mono ?_
  · injection hp with hp; subst hp; exact ⟨fun k => (by cases k), fun k => by have := HP.out.tx.blk.1.1; simp at k; omega⟩
  rintro e w2 ⟨rfl, v2, h2, t2, n2⟩
  rw [show stO [] 3 2 = true from rfl]
  rw [HL.out.1] at h2
  have xb := HP.out.xb
  have B2 := Lib.hid (HP.out.blk.turn ((Turn.grow ((Grow.refl w1).alloc _) _).and t2) (fun q => q.elim (fun e => HP.out.xp (.inr (.inl e))) (fun e => by cases e)))
  have G2 := Lib.hid (HG.out.low (((Turn.grow ((Grow.refl w1).alloc _) _).and t2).low (fun k q => q.elim (fun e => xb k (.inr (.inl e))) (fun e => by cases e)) hz))
  have H2 := Lib.hid h2
  have X2 := Lib.hid (show ∀ k, x.F k → w.heap.size ≤ k ∧ k ≠ pb from fun k q => ⟨xb k (.inl q), fun e => HP.out.xp (.inl (e ▸ q))⟩)
  have V2 := Lib.hid (show ∀ k, v2.ownBlock = some k → w1.heap.size ≤ k from fun k q => by
    rcases n2 with e | ⟨g, e, hg⟩
    · rw [e] at q; cases q
    · rw [e] at q; injection q with q; subst q; simp at hg; omega)
  have hz2 := G2.out.size
  have c2 := B2.out.c5.2.2.1
  have ht := xb t (.inr (.inl rfl))
  have hpt : t ≠ pb := fun e => HP.out.xp (.inr (.inl e.symm))
  have hpw : pb < w1.heap.size := HP.out.blk.1
  have hzz := t2.size
  clear h2 n2 b2
  go_wp2_with fail
  refine (tx_store (w := w2.alloc (.cells #[.int .u8 120] 5 (1, 2))) (H2.out.keep ((Grow.refl _).alloc _)) (by simp; omega) (Sl.litf w2 _ _ _ [120] 1 rfl rfl (by omega)) (fun h0 p hp => ?_) 4).mono ?_
  · injection hp with hp; subst hp; exact ⟨fun k => by have := (World.ownsRow.lt H2.out.row _ k).2; simp at this, fun k => by have := H2.out.blk.1.1; simp at k; omega⟩
  rintro e w3 ⟨rfl, v3, h3, t3, n3⟩
  rw [show stO [pA] 4 1 = true from rfl]
  rw [HL.out.2.1] at h3
  have B3 := Lib.hid (B2.out.turn ((Turn.grow ((Grow.refl w2).alloc _) _).and t3) (fun q => q.elim (fun e => hpt e.symm) (fun e => by have := V2.out _ e; omega)))
  have G3 := Lib.hid (G2.out.low (((Turn.grow ((Grow.refl w2).alloc _) _).and t3).low (fun k q => q.elim (fun e => by omega) (fun e => by have := V2.out _ e; omega)) hz2))
  have H3 := Lib.hid h3
  have c3 := B3.out.c5.2.2.1
  clear h3 n3 c2 t3
  go_wp2_with fail
  refine (tx_load H3.out 3 2 (by decide) (by decide)).mono ?_
  rintro e w4 ⟨A4, k4, rfl, o4, g4⟩
  rw [show loadM 128 3 2 = 2 from rfl, HL.out.2.2.1] at o4
  rw [show loadM 128 3 2 = 2 from rfl, show inW 1024 3 2 = true from rfl]
  have S4 := Lib.hid o4.sl
  have HF4 := Lib.hid (show ∀ p, A4 = some p → w3.heap.size ≤ p.block from fun p hp => by subst hp; exact (World.ownsRow.lt o4.2.2 p.block rfl).1)
  have H4 := Lib.hid (H3.out.keep g4)
  have G4 := Lib.hid (G3.out.trans g4)
  have B4 := Lib.hid (B3.out.keep g4)
  have c4 := B4.out.c5.1
  clear o4 g4 c3
  go_wp2_with fail
  refine (pm_load H4.out.lg.1 3 2 (by decide)).mono ?_
  rintro e w5 ⟨A5, k5, rfl, o5, g5⟩
  rw [HL.out.2.2.2.1] at o5
  have S5 := Lib.hid o5.sl
  have S45 := Lib.hid (S4.out.keep g5)
  have H5 := Lib.hid (H4.out.keep g5)
  have G5 := Lib.hid (G4.out.trans g5)
  have B5 := Lib.hid (B4.out.keep g5)
  have HF5 := Lib.hid (show (∀ p, A4 = some p → w3.heap.size ≤ p.block) ∧ (∀ p, A5 = some p → w4.heap.size ≤ p.block) from ⟨HF4.out, fun p hp => by subst hp; exact (World.ownsRow.lt o5.2.2 p.block rfl).1⟩)
  have c5 := B5.out.c5.2.2.1
  clear o5 g5 c4
  go_wp2_with fail
  refine (tx_commit H5.out).mono ?_
  rintro e w6 ⟨rfl, v6, h6, t6, n6⟩
  rw [HL.out.2.2.2.2.1]
  have B6 := Lib.hid (B5.out.turn t6 (fun q => q.elim (fun q => (X2.out _ q).2 rfl) (fun e => hpt e.symm)))
  have G6 := Lib.hid (G5.out.low (t6.low (fun k q => q.elim (fun q => (X2.out k q).1) (fun e => by omega)) G5.out.size))
  have hcx := H5.out.lg.1.lt
  have S46 := Lib.hid (S45.out.turn' t6 (fun _ p hp q => q.elim (fun q => by have := HF5.out.1 p hp; have := H3.out.lg.1.lt _ q; omega) (fun e => by have := HF5.out.1 p hp; have := H3.out.blk.1.1; omega)))
  have S56 := Lib.hid (S5.out.turn' t6 (fun _ p hp q => q.elim (fun q => by have := HF5.out.2 p hp; have := H4.out.lg.1.lt _ q; omega) (fun e => by have := HF5.out.2 p hp; have := H4.out.blk.1.1; omega)))
  have H6 := Lib.hid h6
  have c6 := B6.out.c5.1
  clear h6 t6 n6 c5 hcx
  go_wp2_with fail
  refine (pm_lasts H6.out.lg.1 3 2 (by decide)).mono ?_
  rintro e w7 ⟨A7, k7, rfl, o7, g7⟩
  rw [HL.out.2.2.2.2.2] at o7
  have cv4 := conv_s (c := k4) (S46.out.keep g7)
  have cv5 := conv_s (c := k5) (S56.out.keep g7)
  have cv7 := conv_s (c := k7) o7.sl
  have G7 := Lib.hid (G6.out.trans g7)
  clear o7 g7 c6
  go_wp2_with fail
  go_ret
  exact ⟨rfl, G7.out⟩
end Go.Proofs.Ytlinlmimakealaa
