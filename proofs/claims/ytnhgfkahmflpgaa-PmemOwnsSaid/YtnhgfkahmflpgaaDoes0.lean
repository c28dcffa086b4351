/- commonslaw03.does: a Store. No statement of the seat is proved here. -/
import Derived.Test.YtnhgfkahmflpgaaDoesP
import Derived.Deep.RegionHeld3
namespace Go.Proofs.Ytnhgfkahmflpgaa
open Go.RowKit

set_option maxHeartbeats 100000000 in
set_option maxRecDepth 8000 in
theorem does3_store {w : World} {base : Nat} {x y : MB} {N : Nat} {S T : List UInt8} {A : List Bool} (h : Pair w base x y N S T A) (hb : base ≤ w.heap.size) (a n : Int) (B : Option Addr) (m c : Nat) (Q : Option Addr) (q d : Nat) (bs : List UInt8) (pk : List Int)
    (hm : bs.length = m) (hq : pk.length = q) (hc : m ≤ c) (hd : q ≤ d) (hrb : RB w w.heap.size B bs) (hri : RI w Q q pk) (hB : 0 < m → ∀ p, B = some p → ¬ x.F p.block ∧ ¬ y.F p.block) (hQ : 0 < q → ∀ p, Q = some p → ¬ x.F p.block ∧ ¬ y.F p.block)
    (hpk : ∀ p ∈ pk, -9223372036854775808 ≤ p ∧ p ≤ 9223372036854775807) :
    Calls Try.prog 13 #[.pointer (some ⟨x.p, 0, none⟩), .pointer (some ⟨y.p, 0, none⟩), dv 0 a n B m c Q q d] w fun e w' => e = .returned (.bool true) ∧ Did w w' base x y N := by
  obtain ⟨hP, hR, hxy, hx, hy⟩ := h
  have hSl : Sl w B (min m 100) (bs.take (min m 100)) := ⟨by simp; omega, by omega, hrb.take (by omega)⟩
  have hRi : RI w Q (min q 200) (pk.take (min q 200)) := by
    obtain ⟨h1, h2⟩ := hri
    refine ⟨by simp; omega, ?_⟩
    have := Rd.take h2 (k := min q 200) (by omega)
    simpa [ics, List.map_take] using this
  have hpk' : ∀ p ∈ pk.take (min q 200), -9223372036854775808 ≤ p ∧ p ≤ 9223372036854775807 := fun p hp => hpk p (List.mem_of_mem_take hp)
  obtain ⟨m', hm'⟩ : ∃ m', m' = min m 100 := ⟨_, rfl⟩
  obtain ⟨q', hq'⟩ : ∃ q', q' = min q 200 := ⟨_, rfl⟩
  obtain ⟨bs', hbs'⟩ : ∃ bs', bs' = bs.take m' := ⟨_, rfl⟩
  obtain ⟨pk', hpk2⟩ : ∃ pk', pk' = pk.take q' := ⟨_, rfl⟩
  have HCUT := Lib.hid (cut3 0 a n B m c Q q d hc hd)
  rw [← hm', ← hbs'] at hSl
  rw [← hq', ← hpk2] at hRi hpk'
  rw [← hm', ← hq'] at HCUT
  have HM0 := Lib.hid (show 0 < m' → 0 < m from fun h0 => by omega)
  have HQ0 := Lib.hid (show 0 < q' → 0 < q from fun h0 => by omega)
  have HP := Lib.hid hP
  have HR := Lib.hid hR
  have HXY := Lib.hid hxy
  have HX := Lib.hid hx
  have HY := Lib.hid hy
  have HB := Lib.hid hB
  have HQ := Lib.hid hQ
  have HSL := Lib.hid hSl
  have HRI := Lib.hid hRi
  have HPK := Lib.hid hpk'
  have R0 := Row.new w 34 [.int .i64 0, .int .i64 a, .int .i64 n, .slice B m c, .slice Q q d] _ rfl
  clear hP hR hxy hx hy hB hQ hSl hRi hpk' hm' hq' hbs' hpk2 hm hq hrb hri hpk hc hd
  unfold dv
  go_enter Try.func13, Try.ntmps13
  go_wp2_with fail
  refine (HCUT.out _).mono ?_
  rintro e w1 ⟨rfl, g1⟩
  have R1 := R0.keep g1
  have c0 := R1.1.2 0 _ rfl; have c1 := R1.1.2 1 _ rfl; have c2 := R1.1.2 2 _ rfl; have c3 := R1.1.2 3 _ rfl; have c4 := R1.1.2 4 _ rfl
  have f0 := R1.2 0 (by simp); have f1 := R1.2 1 (by simp); have f2 := R1.2 2 (by simp); have f3 := R1.2 3 (by simp); have f4 := R1.2 4 (by simp)
  have l0 := R1.1.1
  have R2 := deed_cells (u0 := .int .i64 0) (u1 := .int .i64 a) (u2 := .int .i64 n) (u3 := .slice B m' c) (u4 := .slice Q q' d) R1
  have G2 : Grow w (((((w1.setCell ⟨w.heap.size, 0, none⟩ (.int .i64 0)).setCell ⟨w.heap.size, 1, none⟩ (.int .i64 a)).setCell ⟨w.heap.size, 2, none⟩ (.int .i64 n)).setCell ⟨w.heap.size, 3, none⟩ (.slice B m' c)).setCell ⟨w.heap.size, 4, none⟩ (.slice Q q' d)) :=
    (((((((Grow.refl w).alloc _).trans g1).setCell (Nat.le_refl _) _).setCell (Nat.le_refl _) _).setCell (Nat.le_refl _) _).setCell (Nat.le_refl _) _).setCell (Nat.le_refl _) _
  unfold dv
  clear R0 R1 HCUT g1
  go_upto_region 2 with (fail)
  obtain ⟨w2, hw2⟩ : ∃ w2, w2 = (((((w1.setCell ⟨w.heap.size, 0, none⟩ (.int .i64 0)).setCell ⟨w.heap.size, 1, none⟩ (.int .i64 a)).setCell ⟨w.heap.size, 2, none⟩ (.int .i64 n)).setCell ⟨w.heap.size, 3, none⟩ (.slice B m' c)).setCell ⟨w.heap.size, 4, none⟩ (.slice Q q' d)) := ⟨_, rfl⟩
  rw [← hw2] at R2 G2 ⊢
  clear hw2 c0 c1 c2 c3 c4 f0 f1 f2 f3 f4 l0
  have c0 := R2.1.2 0 _ rfl; have c1 := R2.1.2 1 _ rfl; have c2 := R2.1.2 2 _ rfl; have c3 := R2.1.2 3 _ rfl; have c4 := R2.1.2 4 _ rfl
  have l0 := R2.1.1
  have HGX := Lib.hid (show ¬ x.F w.heap.size from fun q => by have := HP.out.lt _ q; omega)
  have HGY := Lib.hid (show ¬ y.F w.heap.size from fun q => by have := HR.out.lt _ q; omega)
  have HP2 := Lib.hid (HP.out.keep G2)
  have HR2 := Lib.hid (HR.out.keep G2)
  have HS2 := Lib.hid (HSL.out.keep G2)
  have HQ2 := Lib.hid (HRI.out.keep G2)
  have HBX := Lib.hid (show 0 < m' → ∀ p, B = some p → ¬ x.F p.block from fun h0 p hp => (HB.out (HM0.out h0) p hp).1)
  have HBY := Lib.hid (show 0 < m' → ∀ p, B = some p → ¬ y.F p.block from fun h0 p hp => (HB.out (HM0.out h0) p hp).2)
  have HQX := Lib.hid (show 0 < q' → ∀ p, Q = some p → ¬ x.F p.block from fun h0 p hp => (HQ.out (HQ0.out h0) p hp).1)
  have HQY := Lib.hid (show 0 < q' → ∀ p, Q = some p → ¬ y.F p.block from fun h0 p hp => (HQ.out (HQ0.out h0) p hp).2)
  have HDID := Lib.hid (fun (w4 w5 : World) (S T : List UInt8) (A : List Bool) (t4 : Turn x.F w2 w4) (t5 : Turn y.F w4 w5) (hP : PM w4 x N S T A) (hR : RM w5 y N S T A) => did_of G2 hb HX.out HY.out HXY.out t4 t5 hP hR)
  clear R2
  go_wp2_with fail
  clear c0 c2 c4
  go_region_held3 (fun w' => w'.cell? ⟨w.heap.size, 1, none⟩ = some (.int .i64 a) ∧ w'.cell? ⟨w.heap.size, 3, none⟩ = some (.slice B m' c)) (first | exact ⟨c1, c3⟩ | exact ⟨d1, d3⟩ | exact ⟨e1, e3⟩) (first
    | (go_at_call 22; refine (pm_storeU (HP2.out.keep ?_) (HS2.out.keep ?_) HBX.out a).mono ?_; (repeat (first | exact Grow.refl _ | refine Grow.drew ?_ | refine Grow.drewN ?_ _)); rintro e w4 ⟨rfl, hP4, t4⟩; have T4 : Turn x.F w2 w4 := (Turn.grow (by (repeat (first | exact Grow.refl _ | refine Grow.drew ?_ | refine Grow.drewN ?_ _))) _).and t4; have d1 := (T4.cell (p := ⟨w.heap.size, 1, none⟩) l0 HGX.out).trans c1; have d3 := (T4.cell (p := ⟨w.heap.size, 3, none⟩) l0 HGX.out).trans c3; have l4 : w.heap.size < w4.heap.size := Nat.lt_of_lt_of_le l0 T4.size; have HR4 := Lib.hid (HR2.out.turn T4 HXY.out); have HS4 := Lib.hid (HS2.out.turn T4 HBX.out); have HP4 := Lib.hid hP4; have HT4 := Lib.hid T4; clear hP4 t4 T4)
    | (go_at_call 24; refine (rm_storeU (HR4.out.keep ?_) (HS4.out.keep ?_) HBY.out a).mono ?_; (repeat (first | exact Grow.refl _ | refine Grow.drew ?_ | refine Grow.drewN ?_ _)); rintro e w5 ⟨rfl, hR5, t5⟩; have T5 : Turn y.F w4 w5 := (Turn.grow (by (repeat (first | exact Grow.refl _ | refine Grow.drew ?_ | refine Grow.drewN ?_ _))) y.F).and t5; have e1 := (T5.cell (p := ⟨w.heap.size, 1, none⟩) l4 HGY.out).trans d1; have e3 := (T5.cell (p := ⟨w.heap.size, 3, none⟩) l4 HGY.out).trans d3; have HT5 := Lib.hid T5; have HR5 := Lib.hid hR5; clear hR5 t5 T5))
  all_goals
    have X := HDID.out _ _ _ _ _ HT4.out HT5.out HP4.out HR5.out
    go_wp2_with fail
    go_ret
    exact ⟨rfl, X⟩
end Go.Proofs.Ytnhgfkahmflpgaa
