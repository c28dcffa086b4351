/- pmem: Crash. No statement of the seat is proved here. -/
import Derived.Test.YtnhgfkahmflpgaaPm7
import Derived.Test.YtnhgfkahmflpgaaPm5
namespace Go.Proofs.Ytnhgfkahmflpgaa
open Go.RowKit

theorem and1 (p : Int) : bits .and .i64 p 1 = p % 2 := by
  have h1 : (BitVec.ofInt 64 p &&& BitVec.ofInt 64 1).toNat = (p % 2).toNat := by
    rw [BitVec.toNat_and, show (BitVec.ofInt 64 1).toNat = 1 from rfl, Nat.and_one_is_mod, BitVec.toNat_ofInt]
    omega
  have h2 : bits .and .i64 p 1 = IntKind.i64.wrap ((BitVec.ofInt 64 p &&& BitVec.ofInt 64 1).toNat : Int) := rfl
  rw [h2, h1, IntWalk.i64_in _ (by omega)]
  omega
theorem RI.turn {F : Nat → Prop} {w w' : World} {A : Option Addr} {n : Nat} {K : List Int} (h : RI w A n K) (t : Turn F w w') (hA : 0 < n → ∀ p, A = some p → ¬ F p.block) : RI w' A n K := by
  obtain ⟨h1, h2, h3⟩ := h
  refine ⟨h1, h2, fun q => ?_⟩
  obtain ⟨b, o, rfl, hb, hc⟩ := h3 q
  exact ⟨b, o, rfl, Nat.lt_of_lt_of_le hb t.size, fun j u hj => (t.cell (p := ⟨b, o + j, none⟩) hb (hA q ⟨b, o, none⟩ rfl)).trans (hc j u hj)⟩
theorem Sl.turn {F : Nat → Prop} {w w' : World} {A : Option Addr} {n : Nat} {bs : List UInt8} (h : Sl w A n bs) (t : Turn F w w') (hA : 0 < n → ∀ p, A = some p → ¬ F p.block) : Sl w' A n bs := by
  obtain ⟨h1, h2, h3, h4⟩ := h
  refine ⟨h1, h2, h3, fun q => ?_⟩
  obtain ⟨b, o, rfl, hb, hc⟩ := h4 q
  exact ⟨b, o, rfl, Nat.lt_of_lt_of_le hb t.size, fun j u hj => (t.cell (p := ⟨b, o + j, none⟩) hb (hA (by omega) ⟨b, o, none⟩ rfl)).trans (hc j u hj)⟩
theorem OI.far {w : World} {base : Nat} {v : Value} {K : List Int} (h : OI w base v K) : ∃ A c, v = .slice A K.length c ∧ K.length ≤ c ∧ RI w A K.length K ∧ ∀ p, A = some p → base ≤ p.block := by
  obtain ⟨A, c, rfl, h1, -, -, h3⟩ := own_form h
  exact ⟨A, c, rfl, h1, ⟨rfl, Rd.of_own h⟩, fun p hp => (h3 p hp).1⟩
theorem dirtyL_get {S T : List UInt8} {N i : Nat} {z : Int} (h : (dirtyL S T N)[i]? = some z) : ∃ k : Nat, z = (k : Int) ∧ k < N ∧ dirtyB S T k = true := by
  have hm := List.mem_of_getElem? h
  unfold dirtyL at hm
  obtain ⟨k, hk, rfl⟩ := List.mem_map.1 hm
  obtain ⟨h1, h2⟩ := List.mem_filter.1 hk
  exact ⟨k, rfl, by simpa using h1, h2⟩
theorem PM.seenTo {w w' : World} {x : MB} {N : Nat} {S T S' : List UInt8} {A : List Bool} (h : PM w x N S T A) {g' c' : Nat} (hg : CR w g' 62 8 N c' (bvs S')) (hn : ¬ x.F g') (hw : w' = w.setCell ⟨x.p, 0, none⟩ (.slice (some ⟨g', 0, none⟩) N c')) : PM w' ⟨x.p, g', x.gt, x.b⟩ N S' T A := by
  subst hw
  obtain ⟨cs, ct, h1, h2, h3, h4, h5, h6, h7⟩ := h
  have hk : ∀ k, k ≠ x.p → (w.setCell ⟨x.p, 0, none⟩ (.slice (some ⟨g', 0, none⟩) N c')).heap[k]? = w.heap[k]? := fun k hk => Below.heap_setCell _ _ _ _ hk
  have n1 : g' ≠ x.p := fun q => hn (.inl q)
  have n2 : g' ≠ x.gt := fun q => hn (.inr (.inr (.inl q)))
  have n3 : g' ≠ x.b := fun q => hn (.inr (.inr (.inr q)))
  exact ⟨c', ct, h1, h2, ⟨Ne.symm n1, h3.2.1, h3.2.2.1, n2, n3, h3.2.2.2.2.2⟩, h4.set 0 _, hg.same (hk _ n1), h6.same (hk _ (Ne.symm h3.2.1)), h7.kept (hk _ (Ne.symm h3.2.2.1))⟩

def CrashInv (w wr : World) (x : MB) (N : Nat) (S T : List UInt8) (pk : List Int) (t : Value) : Prop := ∃ (i : Nat) (A' : List Bool), t = .int .i64 (i : Int) ∧ i ≤ (dirtyL S T N).length ∧ PM wr x N S (mixL S T (crashB (dirtyL S T N) pk i)) A' ∧ Turn x.F w wr

set_option maxHeartbeats 2000000 in
set_option maxRecDepth 20000 in
theorem pm_crash {w : World} {x : MB} {N : Nat} {S T : List UInt8} {A : List Bool} (h : PM w x N S T A) {B : Option Addr} {m c : Nat} {pk : List Int} (hs : RI w B m pk) (hB : 0 < m → ∀ p, B = some p → ¬ x.F p.block) :
    Calls Try.prog 17 #[.pointer (some ⟨x.p, 0, none⟩), .slice B m c] w fun e w' => e = .returned (.tuple #[]) ∧ ∃ g', w.heap.size ≤ g' ∧ PM w' ⟨x.p, g', x.gt, x.b⟩ N (mixL S T (crashB (dirtyL S T N) pk (dirtyL S T N).length)) (mixL S T (crashB (dirtyL S T N) pk (dirtyL S T N).length)) (List.replicate N false) ∧ Turn x.F w w' := by
  have HB := Lib.hid h.bound
  have HLT := Lib.hid h.lt
  have H := Lib.hid h
  have HS := Lib.hid hs
  have HBF := Lib.hid hB
  have HPL := Lib.hid hs.1
  clear h hs hB
  go_enter Try.func17, Try.ntmps17
  go_wp2_with fail
  refine (pm_dirty H.out).mono ?_
  rintro e w1 ⟨v, rfl, ho, g1⟩
  obtain ⟨D, d, rfl, hd, hR, hDF⟩ := ho.far
  have HDF := Lib.hid (show 0 < (dirtyL S T N).length → ∀ p, D = some p → ¬ x.F p.block from fun _ p hp q => by have := hDF p hp; have := HLT.out _ q; omega)
  have H1 := Lib.hid (H.out.keep g1)
  have HS1 := Lib.hid (HS.out.keep g1)
  have G1 := Lib.hid g1
  obtain ⟨ld, hld⟩ : ∃ ld, (dirtyL S T N).length = ld := ⟨_, rfl⟩
  have HLD := Lib.hid hld
  have hldN : ld ≤ N := by rw [← hld]; exact dirtyL_length S T N
  rw [hld] at hR hd HDF ⊢
  have HR := Lib.hid hR
  have HLN := Lib.hid hldN
  clear ho hR hDF hld hldN g1
  go_wp2_with fail
  go_loopw [9] (fun t wr => CrashInv w1 wr x N S T pk t) (fun t _ => ld - (intOf t).toNat)
  case atStart => exact ⟨0, A, rfl, by omega, by rw [mixL_none S T (B := crashB (dirtyL S T N) pk 0) (fun k => rfl)]; exact H1.out, Turn.refl _ _⟩
  case round =>
    obtain ⟨i, A', rfl, hi, hP, ht⟩ := hrel
    rw [HLD.out] at hi
    by_cases hlt : i < ld
    · obtain ⟨b, o, z, hz, rfl, hb, cz⟩ := (HR.out.turn ht HDF.out).at_ hlt
      obtain ⟨k, rfl, hkN, -⟩ := dirtyL_get hz
      have HZ := Lib.hid hz
      have e5 := wrapS hlt (by have := HLN.out; have := HB.out.2.2; omega)
      have HP := Lib.hid hP
      clear hP hz hb
      go_upto_region 3 with (fail)
      go_cut [31] (fun s wx => s = .bool (decide (i < m) && oddP (pk.getD i 0)) ∧ Grow wr wx)
      case first =>
        by_cases hip : i < m
        · obtain ⟨b2, o2, p, hp, rfl, hb2, cp⟩ := (HS1.out.turn ht HBF.out).at_ hip
          have hpk : pk.getD i 0 = p := by rw [List.getD_eq_getElem?_getD, hp]; rfl
          have hand := and1 p
          have z1 : decide (i < m) = true := decide_eq_true hip
          have HPK := Lib.hid hpk
          clear hp hpk hb2 e5
          go_quiet (fail)
          go_wp2_with fail
          go_meet
          exact ⟨by rw [HPK.out, z1]; unfold oddP; generalize (p % 2 != 0) = u; generalize decide (p < 0) = v; cases u <;> cases v <;> rfl, (Grow.refl _).drewN _⟩
        · have z1 : decide (i < m) = false := decide_eq_false hip
          clear e5
          go_quiet (fail)
          go_wp2_with fail
          go_meet
          exact ⟨by rw [z1]; rfl, (Grow.refl _).drewN _⟩
      case rest =>
        obtain ⟨rfl, g3⟩ := hcut
        have HP3 := Lib.hid (HP.out.keep g3)
        have HT3 := Lib.hid (ht.andGrow g3)
        clear HP ht g3 cz
        cases hq : (decide (i < m) && oddP (pk.getD i 0)) with
        | true =>
          have HQ := Lib.hid (show mixL S T (crashB (dirtyL S T N) pk (i + 1)) = keepN S (mixL S T (crashB (dirtyL S T N) pk i)) (8 * k) 8 by
            rw [Bool.and_eq_true] at hq
            rw [mixL_keep, crashB_go HZ.out (by rw [HPL.out]; exact of_decide_eq_true hq.1) hq.2])
          clear hq
          go_wp2_with fail
          refine (pm_keep HP3.out k hkN).mono ?_
          rintro e w4 ⟨rfl, hP4, t4⟩
          have X : CrashInv w1 w4 x N S T pk (.int .i64 ((i : Int) + 1)) := ⟨i + 1, _, by simp, by rw [HLD.out]; exact hlt, by rw [HQ.out]; exact hP4, HT3.out.and t4⟩
          clear hP4 t4
          go_wp2_with fail
          go_roundw
          case rel => (try rw [e5]); first | exact X | ((repeat apply Exists.intro); exact X) | ((repeat apply Exists.intro); refine ⟨X, ?_⟩; rfl)
          case measure => first | exact meas hlt | exact measW hlt e5
        | false =>
          have X : CrashInv w1 wc x N S T pk (.int .i64 ((i : Int) + 1)) := ⟨i + 1, A', by simp, by rw [HLD.out]; exact hlt, by
            rw [crashB_skip (i := i) (fun q => by rw [HPL.out] at q; rw [decide_eq_true q, Bool.true_and] at hq; exact hq)]; exact HP3.out, HT3.out⟩
          clear hq
          go_wp2_with fail
          go_roundw
          case rel => (try rw [e5]); first | exact X | ((repeat apply Exists.intro); exact X) | ((repeat apply Exists.intro); refine ⟨X, ?_⟩; rfl)
          case measure => first | exact meas hlt | exact measW hlt e5
    · obtain rfl : i = ld := by omega
      obtain ⟨cs, ct, hcs, hct, c0, c1, c2, l0⟩ := hP.view
      have hP0 := hP
      obtain ⟨cs', ct', -, -, -, h4, -, h6, -⟩ := hP0
      have c1' := h4.cell (j := 1) rfl
      rw [c1] at c1'
      obtain rfl : ct = ct' := by injection c1' with c1'; injection c1'
      have f0 := h4.frozen 0
      have HC := Lib.hid (clone_cells h6 HB.out.2.1 HB.out.2.2)
      have HP := Lib.hid hP
      clear h4 h6 c1' hP hcs hct
      go_wp2_with fail
      refine HC.out.mono ?_
      rintro e w5 ⟨g', c', rfl, hg, hg', g5⟩
      have hP5 := HP.out.keep g5
      have hgF : ¬ x.F g' := fun q => by have := HP.out.lt _ q; omega
      obtain ⟨cs2, ct2, -, -, d0, d1, d2, l2⟩ := hP5.view
      have f5 : w5.frozen? ⟨x.p, 0, none⟩ = false := by obtain ⟨_, _, _, _, _, q4, _⟩ := hP5; exact q4.frozen 0
      have hP6 := hP5.seenTo hg hgF rfl
      obtain ⟨w6, hcl, hS6, hg6⟩ := hP6.isSet.cleared 0
      obtain ⟨cs3, ct3, -, -, -, -, e2, l3⟩ := hP6.view
      have HP6 := Lib.hid hP6
      have HS6 := Lib.hid hS6
      have HG6 := Lib.hid hg6
      have HGG := Lib.hid (Nat.le_trans (G1.out.size) (Nat.le_trans ht.size hg'))
      have HT5 := Lib.hid ((ht.andGrow g5).set ⟨x.p, 0, none⟩ (.inl rfl) (.slice (some ⟨g', 0, none⟩) N c'))
      clear hP5 hP6 hS6 hg6 hg hgF hg' g5 c0 c1 c2 f0 l0
      go_wp2_with fail
      have hl' := HP6.out.lenA
      have h7 := HP6.out.setTo HS6.out (by simp) HG6.out
      rw [hl'] at h7
      go_end0
      exact ⟨rfl, g', HGG.out, by rw [HLD.out]; exact h7.1, ((Turn.grow G1.out x.F).and HT5.out).trans (Turn.grown HG6.out (F := fun i => i = x.b) (fun j hj => by injection hj with hj; exact hj.symm)) (fun i q => .inl (.inr (.inr (.inr q))))⟩
end Go.Proofs.Ytnhgfkahmflpgaa
