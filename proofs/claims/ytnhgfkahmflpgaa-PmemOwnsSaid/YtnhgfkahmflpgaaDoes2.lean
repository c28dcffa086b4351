/- commonslaw03.does: the other deeds. No statement of the seat is proved here. -/
import Derived.Test.YtnhgfkahmflpgaaDoesP
namespace Go.Proofs.Ytnhgfkahmflpgaa
open Go.RowKit

set_option maxHeartbeats 8000000 in
set_option maxRecDepth 8000 in
theorem does3_else {w : World} {base : Nat} {x y : MB} {N : Nat} {S T : List UInt8} {A : List Bool} (h : Pair w base x y N S T A) (hb : base ≤ w.heap.size) (k a n : Int) (k0 : k ≠ 0) (k1 : k ≠ 1) (B : Option Addr) (m c : Nat) (Q : Option Addr) (q d : Nat) (bs : List UInt8) (pk : List Int)
    (hn : -9223372036854775808 ≤ n) (hn' : n ≤ 9223372036854775807) (hm : bs.length = m) (hq : pk.length = q) (hc : m ≤ c) (hd : q ≤ d) (hrb : RB w w.heap.size B bs) (hri : RI w Q q pk) (hB : 0 < m → ∀ p, B = some p → ¬ x.F p.block ∧ ¬ y.F p.block) (hQ : 0 < q → ∀ p, Q = some p → ¬ x.F p.block ∧ ¬ y.F p.block)
    (hpk : ∀ p ∈ pk, -9223372036854775808 ≤ p ∧ p ≤ 9223372036854775807) :
    Calls Try.prog 13 #[.pointer (some ⟨x.p, 0, none⟩), .pointer (some ⟨y.p, 0, none⟩), dv k a n B m c Q q d] w fun e w' => e = .returned (.bool true) ∧ Did w w' base x y N := by
  obtain ⟨hP, hR, hxy, hx, hy⟩ := h
  have hSl : Sl w B (min m 100) (bs.take (min m 100)) := ⟨by simp; omega, by omega, hrb.take (by omega)⟩
  have hRi : RI w Q (min q 200) (pk.take (min q 200)) := by
    obtain ⟨h1, h2⟩ := hri
    refine ⟨by simp; omega, ?_⟩
    have := Rd.take h2 (k := min q 200) (by omega)
    simpa [ics, List.map_take] using this
  have hpk' : ∀ p ∈ pk.take (min q 200), -9223372036854775808 ≤ p ∧ p ≤ 9223372036854775807 := fun p hp => hpk p (List.mem_of_mem_take hp)
  obtain ⟨m', hm'⟩ : ∃ m', m' = min m 100 := ⟨_, rfl⟩
  obtain ⟨q', hq'⟩ : ∃ q', q' = min q 200 := ⟨_, rfl⟩
  obtain ⟨bs', hbs'⟩ : ∃ bs', bs' = bs.take m' := ⟨_, rfl⟩
  obtain ⟨pk', hpk2⟩ : ∃ pk', pk' = pk.take q' := ⟨_, rfl⟩
  have HCUT := Lib.hid (cut3 k a n B m c Q q d hc hd)
  rw [← hm', ← hbs'] at hSl
  rw [← hq', ← hpk2] at hRi hpk'
  rw [← hm', ← hq'] at HCUT
  have HM0 := Lib.hid (show 0 < m' → 0 < m from fun h0 => by omega)
  have HQ0 := Lib.hid (show 0 < q' → 0 < q from fun h0 => by omega)
  have HP := Lib.hid hP
  have HR := Lib.hid hR
  have HXY := Lib.hid hxy
  have HX := Lib.hid hx
  have HY := Lib.hid hy
  have HB := Lib.hid hB
  have HQ := Lib.hid hQ
  have HSL := Lib.hid hSl
  have HRI := Lib.hid hRi
  have HPK := Lib.hid hpk'
  have R0 := Row.new w 34 [.int .i64 k, .int .i64 a, .int .i64 n, .slice B m c, .slice Q q d] _ rfl
  clear hP hR hxy hx hy hB hQ hSl hRi hpk' hm' hq' hbs' hpk2 hm hq hrb hri hpk hc hd
  unfold dv
  go_enter Try.func13, Try.ntmps13
  go_wp2_with fail
  refine (HCUT.out _).mono ?_
  rintro e w1 ⟨rfl, g1⟩
  have R1 := R0.keep g1
  have c0 := R1.1.2 0 _ rfl; have c1 := R1.1.2 1 _ rfl; have c2 := R1.1.2 2 _ rfl; have c3 := R1.1.2 3 _ rfl; have c4 := R1.1.2 4 _ rfl
  have f0 := R1.2 0 (by simp); have f1 := R1.2 1 (by simp); have f2 := R1.2 2 (by simp); have f3 := R1.2 3 (by simp); have f4 := R1.2 4 (by simp)
  have l0 := R1.1.1
  have R2 := deed_cells (u0 := .int .i64 k) (u1 := .int .i64 a) (u2 := .int .i64 n) (u3 := .slice B m' c) (u4 := .slice Q q' d) R1
  have G2 : Grow w (((((w1.setCell ⟨w.heap.size, 0, none⟩ (.int .i64 k)).setCell ⟨w.heap.size, 1, none⟩ (.int .i64 a)).setCell ⟨w.heap.size, 2, none⟩ (.int .i64 n)).setCell ⟨w.heap.size, 3, none⟩ (.slice B m' c)).setCell ⟨w.heap.size, 4, none⟩ (.slice Q q' d)) :=
    (((((((Grow.refl w).alloc _).trans g1).setCell (Nat.le_refl _) _).setCell (Nat.le_refl _) _).setCell (Nat.le_refl _) _).setCell (Nat.le_refl _) _).setCell (Nat.le_refl _) _
  unfold dv
  clear R0 R1 HCUT g1
  go_upto_region 2 with (fail)
  obtain ⟨w2, hw2⟩ : ∃ w2, w2 = (((((w1.setCell ⟨w.heap.size, 0, none⟩ (.int .i64 k)).setCell ⟨w.heap.size, 1, none⟩ (.int .i64 a)).setCell ⟨w.heap.size, 2, none⟩ (.int .i64 n)).setCell ⟨w.heap.size, 3, none⟩ (.slice B m' c)).setCell ⟨w.heap.size, 4, none⟩ (.slice Q q' d)) := ⟨_, rfl⟩
  rw [← hw2] at R2 G2 ⊢
  clear hw2 c0 c1 c2 c3 c4 f0 f1 f2 f3 f4 l0
  have c0 := R2.1.2 0 _ rfl; have c1 := R2.1.2 1 _ rfl; have c2 := R2.1.2 2 _ rfl; have c3 := R2.1.2 3 _ rfl; have c4 := R2.1.2 4 _ rfl
  have l0 := R2.1.1
  have HGX := Lib.hid (show ¬ x.F w.heap.size from fun q => by have := HP.out.lt _ q; omega)
  have HGY := Lib.hid (show ¬ y.F w.heap.size from fun q => by have := HR.out.lt _ q; omega)
  have HP2 := Lib.hid (HP.out.keep G2)
  have HR2 := Lib.hid (HR.out.keep G2)
  have HS2 := Lib.hid (HSL.out.keep G2)
  have HQ2 := Lib.hid (HRI.out.keep G2)
  have HBX := Lib.hid (show 0 < m' → ∀ p, B = some p → ¬ x.F p.block from fun h0 p hp => (HB.out (HM0.out h0) p hp).1)
  have HBY := Lib.hid (show 0 < m' → ∀ p, B = some p → ¬ y.F p.block from fun h0 p hp => (HB.out (HM0.out h0) p hp).2)
  have HQX := Lib.hid (show 0 < q' → ∀ p, Q = some p → ¬ x.F p.block from fun h0 p hp => (HQ.out (HQ0.out h0) p hp).1)
  have HQY := Lib.hid (show 0 < q' → ∀ p, Q = some p → ¬ y.F p.block from fun h0 p hp => (HQ.out (HQ0.out h0) p hp).2)
  have HDID := Lib.hid (fun (w4 w5 : World) (S T : List UInt8) (A : List Bool) (t4 : Turn x.F w2 w4) (t5 : Turn y.F w4 w5) (hP : PM w4 x N S T A) (hR : RM w5 y N S T A) => did_of G2 hb HX.out HY.out HXY.out t4 t5 hP hR)
  clear R2
  have z0 : (k == 0) = false := by rw [beq_eq_false_iff_ne]; exact k0
  have z1 : (k == 1) = false := by rw [beq_eq_false_iff_ne]; exact k1
  by_cases k2 : k = 2
  · subst k2
    clear k0 k1 z0 z1
    go_wp2_with fail
    refine (pm_fence HP2.out).mono ?_
    rintro e w4 ⟨rfl, hP4, t4⟩
    have hR4 := HR2.out.turn t4 HXY.out
    go_wp2_with fail
    refine (rm_fence hR4).mono ?_
    rintro e w5 ⟨rfl, hR5, t5⟩
    have X := HDID.out _ _ _ _ _ t4 t5 hP4 hR5
    clear hP4 hR5 t4 t5 hR4 c0 c1 c2 c3 c4 l0
    go_wp2_with fail
    go_ret
    exact ⟨rfl, X⟩
  have z2 : (k == 2) = false := by rw [beq_eq_false_iff_ne]; exact k2
  by_cases k3 : k = 3
  · subst k3
    clear k0 k1 k2 z0 z1 z2
    go_wp2_with fail
    go_region_with (first
      | (go_at_call 27; refine (pm_evictU (HP2.out.keep ?_) n).mono ?_; (repeat (first | exact Grow.refl _ | refine Grow.drew ?_ | refine Grow.drewN ?_ _)); rintro e w4 ⟨rfl, hP4, t4⟩; have T4 : Turn x.F w2 w4 := (Turn.grow (by (repeat (first | exact Grow.refl _ | refine Grow.drew ?_ | refine Grow.drewN ?_ _))) _).and t4; have d1 := (T4.cell (p := ⟨w.heap.size, 1, none⟩) l0 HGX.out).trans c1; have d2 := (T4.cell (p := ⟨w.heap.size, 2, none⟩) l0 HGX.out).trans c2; have d3 := (T4.cell (p := ⟨w.heap.size, 3, none⟩) l0 HGX.out).trans c3; have HR4 := Lib.hid (HR2.out.turn T4 HXY.out))
      | (go_at_call 28; refine (rm_evictU (HR4.out.keep ?_) n).mono ?_; (repeat (first | exact Grow.refl _ | refine Grow.drew ?_ | refine Grow.drewN ?_ _)); rintro e w5 ⟨rfl, hR5, t5⟩; have T5 : Turn y.F w4 w5 := (Turn.grow (by (repeat (first | exact Grow.refl _ | refine Grow.drew ?_ | refine Grow.drewN ?_ _))) _).and t5))
    all_goals
      have X := HDID.out _ _ _ _ _ T4 T5 hP4 hR5
      clear hP4 hR5 t4 t5 T4 T5 HR4 c0 c1 c2 c3 c4 l0
      go_wp2_with fail
      go_ret
      exact ⟨rfl, X⟩
  have z3 : (k == 3) = false := by rw [beq_eq_false_iff_ne]; exact k3
  by_cases k4 : k = 4
  · subst k4
    clear k0 k1 k2 k3 z0 z1 z2 z3
    go_wp2_with fail
    refine (pm_crash HP2.out HQ2.out HQX.out).mono ?_
    rintro e w4 ⟨rfl, g4, hg4, hP4, t4⟩
    have d4 := (t4.cell (p := ⟨w.heap.size, 4, none⟩) l0 HGX.out).trans c4
    have l4 : w.heap.size < w4.heap.size := Nat.lt_of_lt_of_le l0 t4.size
    have HR4 := Lib.hid (HR2.out.turn t4 HXY.out)
    have HQ4 := Lib.hid (HQ2.out.turn t4 HQX.out)
    have HP4 := Lib.hid hP4
    have HG4 := Lib.hid hg4
    have HT4 := Lib.hid t4
    clear c0 c1 c2 c3 c4 l0 hP4 hg4 t4
    go_wp2_with fail
    refine (rm_crash HR4.out HQ4.out HQY.out HPK.out).mono ?_
    rintro e w5 ⟨rfl, hR5, t5⟩
    have hxy4 : ∀ k, (⟨x.p, g4, x.gt, x.b⟩ : MB).F k → ¬ y.F k := by
      intro k hk hk2
      rcases hk with h | h | h | h
      · exact HXY.out k (.inl h) hk2
      · subst h; have := HR2.out.lt _ hk2; have := HG4.out; omega
      · exact HXY.out k (.inr (.inr (.inl h))) hk2
      · exact HXY.out k (.inr (.inr (.inr h))) hk2
    have hx4 : ∀ k, (⟨x.p, g4, x.gt, x.b⟩ : MB).F k → base ≤ k := by
      intro k hk
      rcases hk with h | h | h | h
      · exact HX.out k (.inl h)
      · subst h; have := HG4.out; have := G2.size; omega
      · exact HX.out k (.inr (.inr (.inl h)))
      · exact HX.out k (.inr (.inr (.inr h)))
    have X : Did w w5 base x y N := ⟨⟨x.p, g4, x.gt, x.b⟩, _, _, _, rfl, ⟨HP4.out.turn t5 (fun k q q2 => hxy4 k q2 q), hR5, hxy4, hx4, HY.out⟩,
      ((Below.mono G2 hb).trans (HT4.out.low HX.out (Nat.le_trans hb G2.size))).trans (t5.low HY.out (Nat.le_trans hb (Nat.le_trans G2.size HT4.out.size))),
      Nat.le_trans G2.size (Nat.le_trans HT4.out.size t5.size),
      fun k hk h1 h2 => ((t5.block k (Nat.lt_of_lt_of_le hk (Nat.le_trans G2.size HT4.out.size)) h2).trans (HT4.out.block k (Nat.lt_of_lt_of_le hk G2.size) h1)).trans (G2.block k hk)⟩
    clear hR5 t5 hxy4 hx4 d4 l4
    go_wp2_with fail
    go_ret
    exact ⟨rfl, X⟩
  have z4 : (k == 4) = false := by rw [beq_eq_false_iff_ne]; exact k4
  by_cases k5 : k = 5
  · subst k5
    clear k0 k1 k2 k3 k4 z0 z1 z2 z3 z4
    go_wp2_with fail
    refine (pm_loadU HP2.out a n hn hn').mono ?_
    rintro e w4 ⟨A4, c4', rfl, o4, g4⟩
    have s4 := o4.sl
    have d1 := g4.cell c1
    have d2 := g4.cell c2
    have l4 : w.heap.size < w4.heap.size := Nat.lt_of_lt_of_le l0 g4.size
    have HR4 := Lib.hid (HR2.out.keep g4)
    have HG4 := Lib.hid g4
    clear c0 c1 c2 c3 c4 l0 o4 g4
    go_wp2_with fail
    refine (rm_loadU HR4.out a n).mono ?_
    rintro e w5 ⟨A5, c5', rfl, o5, g5⟩
    have s5 := o5.sl
    replace s4 := s4.keep g5
    have HG5 := Lib.hid g5
    clear d1 d2 l4 o5 g5
    go_wp2_with fail
    refine (same_yes s4 s5 rfl).mono ?_
    rintro e w6 ⟨rfl, n6, hw6⟩
    have g6 : Grow w5 w6 := by rw [hw6]; exact (Grow.refl _).drewN n6
    have X := HDID.out _ _ _ _ _ (Turn.grow HG4.out x.F) (Turn.grow (HG5.out.trans g6) y.F) (HP2.out.keep HG4.out) (HR4.out.keep (HG5.out.trans g6))
    clear s4 s5 hw6 g6
    go_wp2_with fail
    go_ret
    exact ⟨rfl, X⟩
  have z5 : (k == 5) = false := by rw [beq_eq_false_iff_ne]; exact k5
  have X := HDID.out _ _ _ _ _ (Turn.refl x.F w2) (Turn.refl y.F w2) HP2.out HR2.out
  clear k0 k1 k2 k3 k4 k5
  go_wp2_with fail
  go_ret
  exact ⟨rfl, X⟩
end Go.Proofs.Ytnhgfkahmflpgaa
