/- pmem: Crash. commonsref03: the document's memory; Within, Load, Store. commonsref03: dirty, keep. pmem: New. No statement of the seat is proved here. -/
import Derived.Test.YtlinlmimakealaaZ05
import Derived.RegionTactic
import Derived.Deep.RegionWith
import Derived.Deep.DeepCutAuto
namespace Go.Proofs.Ytlinlmimakealaa
open Go.RowKit

theorem and1 (p : Int) : bits .and .i64 p 1 = p % 2 := by
  have h1 : (BitVec.ofInt 64 p &&& BitVec.ofInt 64 1).toNat = (p % 2).toNat := by
    rw [BitVec.toNat_and, show (BitVec.ofInt 64 1).toNat = 1 from rfl, Nat.and_one_is_mod, BitVec.toNat_ofInt]
    omega
  have h2 : bits .and .i64 p 1 = IntKind.i64.wrap ((BitVec.ofInt 64 p &&& BitVec.ofInt 64 1).toNat : Int) := rfl
  rw [h2, h1, IntWalk.i64_in _ (by omega)]
  omega
theorem RI.turn {F : Nat → Prop} {w w' : World} {A : Option Addr} {n : Nat} {K : List Int} (h : RI w A n K) (t : Turn F w w') (hA : 0 < n → ∀ p, A = some p → ¬ F p.block) : RI w' A n K := by
  obtain ⟨h1, h2, h3⟩ := h
  refine ⟨h1, h2, fun q => ?_⟩
  obtain ⟨b, o, rfl, hb, hc⟩ := h3 q
  exact ⟨b, o, rfl, Nat.lt_of_lt_of_le hb t.size, fun j u hj => (t.cell (p := ⟨b, o + j, none⟩) hb (hA q ⟨b, o, none⟩ rfl)).trans (hc j u hj)⟩
theorem Sl.turn {F : Nat → Prop} {w w' : World} {A : Option Addr} {n : Nat} {bs : List UInt8} (h : Sl w A n bs) (t : Turn F w w') (hA : 0 < n → ∀ p, A = some p → ¬ F p.block) : Sl w' A n bs := by
  obtain ⟨h1, h2, h3, h4⟩ := h
  refine ⟨h1, h2, h3, fun q => ?_⟩
  obtain ⟨b, o, rfl, hb, hc⟩ := h4 q
  exact ⟨b, o, rfl, Nat.lt_of_lt_of_le hb t.size, fun j u hj => (t.cell (p := ⟨b, o + j, none⟩) hb (hA (by omega) ⟨b, o, none⟩ rfl)).trans (hc j u hj)⟩
theorem OI.far {w : World} {base : Nat} {v : Value} {K : List Int} (h : OI w base v K) : ∃ A c, v = .slice A K.length c ∧ K.length ≤ c ∧ RI w A K.length K ∧ ∀ p, A = some p → base ≤ p.block := by
  obtain ⟨A, c, rfl, h1, -, -, h3⟩ := own_form h
  exact ⟨A, c, rfl, h1, ⟨rfl, Rd.of_own h⟩, fun p hp => (h3 p hp).1⟩
theorem dirtyL_get {S T : List UInt8} {N i : Nat} {z : Int} (h : (dirtyL S T N)[i]? = some z) : ∃ k : Nat, z = (k : Int) ∧ k < N ∧ dirtyB S T k = true := by
  have hm := List.mem_of_getElem? h
  unfold dirtyL at hm
  obtain ⟨k, hk, rfl⟩ := List.mem_map.1 hm
  obtain ⟨h1, h2⟩ := List.mem_filter.1 hk
  exact ⟨k, rfl, by simpa using h1, h2⟩
theorem PM.seenTo {w w' : World} {x : MB} {N : Nat} {S T S' : List UInt8} {A : List Bool} (h : PM w x N S T A) {g' c' : Nat} (hg : CR w g' 79 8 N c' (bvs S')) (hn : ¬ x.F g') (hw : w' = w.setCell ⟨x.p, 0, none⟩ (.slice (some ⟨g', 0, none⟩) N c')) : PM w' ⟨x.p, g', x.gt, x.b⟩ N S' T A := by
  subst hw
  obtain ⟨cs, ct, h1, h2, h3, h4, h5, h6, h7⟩ := h
  have hk : ∀ k, k ≠ x.p → (w.setCell ⟨x.p, 0, none⟩ (.slice (some ⟨g', 0, none⟩) N c')).heap[k]? = w.heap[k]? := fun k hk => Below.heap_setCell _ _ _ _ hk
  have n1 : g' ≠ x.p := fun q => hn (.inl q)
  have n2 : g' ≠ x.gt := fun q => hn (.inr (.inr (.inl q)))
  have n3 : g' ≠ x.b := fun q => hn (.inr (.inr (.inr q)))
  exact ⟨c', ct, h1, h2, ⟨Ne.symm n1, h3.2.1, h3.2.2.1, n2, n3, h3.2.2.2.2.2⟩, h4.set 0 _, hg.same (hk _ n1), h6.same (hk _ (Ne.symm h3.2.1)), h7.kept (hk _ (Ne.symm h3.2.2.1))⟩

def CrashInv (w wr : World) (x : MB) (N : Nat) (S T : List UInt8) (pk : List Int) (t : Value) : Prop := ∃ (i : Nat) (A' : List Bool), t = .int .i64 (i : Int) ∧ i ≤ (dirtyL S T N).length ∧ PM wr x N S (mixL S T (crashB (dirtyL S T N) pk i)) A' ∧ Turn x.F w wr

set_option maxHeartbeats 2000000 in
set_option maxRecDepth 20000 in
theorem pm_crash {w : World} {x : MB} {N : Nat} {S T : List UInt8} {A : List Bool} (h : PM w x N S T A) {B : Option Addr} {m c : Nat} {pk : List Int} (hs : RI w B m pk) (hB : 0 < m → ∀ p, B = some p → ¬ x.F p.block) :
    Calls Try.prog 21 #[.pointer (some ⟨x.p, 0, none⟩), .slice B m c] w fun e w' => e = .returned (.tuple #[]) ∧ ∃ g', w.heap.size ≤ g' ∧ PM w' ⟨x.p, g', x.gt, x.b⟩ N (mixL S T (crashB (dirtyL S T N) pk (dirtyL S T N).length)) (mixL S T (crashB (dirtyL S T N) pk (dirtyL S T N).length)) (List.replicate N false) ∧ Turn x.F w w' := by
  have HB := Lib.hid h.bound
  have HLT := Lib.hid h.lt
  have H := Lib.hid h
  have HS := Lib.hid hs
  have HBF := Lib.hid hB
  have HPL := Lib.hid hs.1
  clear h hs hB
  go_enter Try.func21, Try.ntmps21
  go_wp2_with fail
  refine (pm_dirty H.out).mono ?_
  rintro e w1 ⟨v, rfl, ho, g1⟩
  obtain ⟨D, d, rfl, hd, hR, hDF⟩ := ho.far
  have HDF := Lib.hid (show 0 < (dirtyL S T N).length → ∀ p, D = some p → ¬ x.F p.block from fun _ p hp q => by have := hDF p hp; have := HLT.out _ q; omega)
  have H1 := Lib.hid (H.out.keep g1)
  have HS1 := Lib.hid (HS.out.keep g1)
  have G1 := Lib.hid g1
  obtain ⟨ld, hld⟩ : ∃ ld, (dirtyL S T N).length = ld := ⟨_, rfl⟩
  have HLD := Lib.hid hld
  have hldN : ld ≤ N := by rw [← hld]; exact dirtyL_length S T N
  rw [hld] at hR hd HDF ⊢
  have HR := Lib.hid hR
  have HLN := Lib.hid hldN
  clear ho hR hDF hld hldN g1
  go_wp2_with fail
  go_loopw [9] (fun t wr => CrashInv w1 wr x N S T pk t) (fun t _ => ld - (intOf t).toNat)
  case atStart => exact ⟨0, A, rfl, by omega, by rw [mixL_none S T (B := crashB (dirtyL S T N) pk 0) (fun k => rfl)]; exact H1.out, Turn.refl _ _⟩
  case round =>
    obtain ⟨i, A', rfl, hi, hP, ht⟩ := hrel
    rw [HLD.out] at hi
    by_cases hlt : i < ld
    · obtain ⟨b, o, z, hz, rfl, hb, cz⟩ := (HR.out.turn ht HDF.out).at_ hlt
      obtain ⟨k, rfl, hkN, -⟩ := dirtyL_get hz
      have HZ := Lib.hid hz
      have e5 := wrapS hlt (by have := HLN.out; have := HB.out.2.2; omega)
      have HP := Lib.hid hP
      clear hP hz hb
      go_upto_region 3 with (fail)
      go_cut [31] (fun s wx => s = .bool (decide (i < m) && oddP (pk.getD i 0)) ∧ Grow wr wx)
      case first =>
        by_cases hip : i < m
        · obtain ⟨b2, o2, p, hp, rfl, hb2, cp⟩ := (HS1.out.turn ht HBF.out).at_ hip
          have hpk : pk.getD i 0 = p := by rw [List.getD_eq_getElem?_getD, hp]; rfl
          have hand := and1 p
          have z1 : decide (i < m) = true := decide_eq_true hip
          have HPK := Lib.hid hpk
          clear hp hpk hb2 e5
          go_quiet (fail)
          go_wp2_with fail
          go_meet
          exact ⟨by rw [HPK.out, z1]; unfold oddP; generalize (p % 2 != 0) = u; generalize decide (p < 0) = v; cases u <;> cases v <;> rfl, (Grow.refl _).drewN _⟩
        · have z1 : decide (i < m) = false := decide_eq_false hip
          clear e5
          go_quiet (fail)
          go_wp2_with fail
          go_meet
          exact ⟨by rw [z1]; rfl, (Grow.refl _).drewN _⟩
      case rest =>
        obtain ⟨rfl, g3⟩ := hcut
        have HP3 := Lib.hid (HP.out.keep g3)
        have HT3 := Lib.hid (ht.andGrow g3)
        clear HP ht g3 cz
        cases hq : (decide (i < m) && oddP (pk.getD i 0)) with
        | true =>
          have HQ := Lib.hid (show mixL S T (crashB (dirtyL S T N) pk (i + 1)) = keepN S (mixL S T (crashB (dirtyL S T N) pk i)) (8 * k) 8 by
            rw [Bool.and_eq_true] at hq
            rw [mixL_keep, crashB_go HZ.out (by rw [HPL.out]; exact of_decide_eq_true hq.1) hq.2])
          clear hq
          go_wp2_with fail
          refine (pm_keep HP3.out k hkN).mono ?_
          rintro e w4 ⟨rfl, hP4, t4⟩
          have X : CrashInv w1 w4 x N S T pk (.int .i64 ((i : Int) + 1)) := ⟨i + 1, _, by simp, by rw [HLD.out]; exact hlt, by rw [HQ.out]; exact hP4, HT3.out.and t4⟩
          clear hP4 t4
          go_wp2_with fail
          go_roundw
          case rel => (try rw [e5]); first | exact X | ((repeat apply Exists.intro); exact X) | ((repeat apply Exists.intro); refine ⟨X, ?_⟩; rfl)
          case measure => first | exact meas hlt | exact measW hlt e5
        | false =>
          have X : CrashInv w1 wc x N S T pk (.int .i64 ((i : Int) + 1)) := ⟨i + 1, A', by simp, by rw [HLD.out]; exact hlt, by
            rw [crashB_skip (i := i) (fun q => by rw [HPL.out] at q; rw [decide_eq_true q, Bool.true_and] at hq; exact hq)]; exact HP3.out, HT3.out⟩
          clear hq
          go_wp2_with fail
          go_roundw
          case rel => (try rw [e5]); first | exact X | ((repeat apply Exists.intro); exact X) | ((repeat apply Exists.intro); refine ⟨X, ?_⟩; rfl)
          case measure => first | exact meas hlt | exact measW hlt e5
    · obtain rfl : i = ld := by omega
      obtain ⟨cs, ct, hcs, hct, c0, c1, c2, l0⟩ := hP.view
      have hP0 := hP
      obtain ⟨cs', ct', -, -, -, h4, -, h6, -⟩ := hP0
      have c1' := h4.cell (j := 1) rfl
      rw [c1] at c1'
      obtain rfl : ct = ct' := by injection c1' with c1'; injection c1'
      have f0 := h4.frozen 0
      have HC := Lib.hid (clone_cells h6 HB.out.2.1 HB.out.2.2)
      have HP := Lib.hid hP
      clear h4 h6 c1' hP hcs hct
      go_wp2_with fail
      refine HC.out.mono ?_
      rintro e w5 ⟨g', c', rfl, hg, hg', g5⟩
      have hP5 := HP.out.keep g5
      have hgF : ¬ x.F g' := fun q => by have := HP.out.lt _ q; omega
      obtain ⟨cs2, ct2, -, -, d0, d1, d2, l2⟩ := hP5.view
      have f5 : w5.frozen? ⟨x.p, 0, none⟩ = false := by obtain ⟨_, _, _, _, _, q4, _⟩ := hP5; exact q4.frozen 0
      have hP6 := hP5.seenTo hg hgF rfl
      obtain ⟨w6, hcl, hS6, hg6⟩ := hP6.isSet.cleared 0
      obtain ⟨cs3, ct3, -, -, -, -, e2, l3⟩ := hP6.view
      have HP6 := Lib.hid hP6
      have HS6 := Lib.hid hS6
      have HG6 := Lib.hid hg6
      have HGG := Lib.hid (Nat.le_trans (G1.out.size) (Nat.le_trans ht.size hg'))
      have HT5 := Lib.hid ((ht.andGrow g5).set ⟨x.p, 0, none⟩ (.inl rfl) (.slice (some ⟨g', 0, none⟩) N c'))
      clear hP5 hP6 hS6 hg6 hg hgF hg' g5 c0 c1 c2 f0 l0
      go_wp2_with fail
      have hl' := HP6.out.lenA
      have h7 := HP6.out.setTo HS6.out (by simp) HG6.out
      rw [hl'] at h7
      go_end0
      exact ⟨rfl, g', HGG.out, by rw [HLD.out]; exact h7.1, ((Turn.grow G1.out x.F).and HT5.out).trans (Turn.grown HG6.out (F := fun i => i = x.b) (fun j hj => by injection hj with hj; exact hj.symm)) (fun i q => .inl (.inr (.inr (.inr q))))⟩
end Go.Proofs.Ytlinlmimakealaa

namespace Go.Proofs.Ytlinlmimakealaa
open Go.RowKit

def tbs (A : List Bool) : List Value := A.map Value.bool
theorem tbs_at {A : List Bool} {k : Nat} (h : k < A.length) : (tbs A)[k]? = some (.bool (A.getD k false)) := by simp [tbs, List.getD_eq_getElem?_getD, h]
/-- The document's memory of N cells: what is seen, what lasts, what is on its way. -/
def RM (w : World) (x : MB) (N : Nat) (S T : List UInt8) (A : List Bool) : Prop := ∃ cs ct ca, (N % 8 = 0 ∧ 8 ≤ N ∧ N ≤ 131072) ∧ x.apart ∧
  CR w x.p 91 3 1 1 [.slice (some ⟨x.gs, 0, none⟩) (8 * N) cs, .slice (some ⟨x.gt, 0, none⟩) (8 * N) ct, .slice (some ⟨x.b, 0, none⟩) N ca] ∧ CR w x.gs 5 1 (8 * N) cs (bvs S) ∧ CR w x.gt 5 1 (8 * N) ct (bvs T) ∧ CR w x.b 4 1 N ca (tbs A)
section
variable {w w' : World} {x : MB} {N : Nat} {S T : List UInt8} {A : List Bool}
theorem RM.turn {F : Nat → Prop} (h : RM w x N S T A) (t : Turn F w w') (hF : ∀ k, F k → ¬ x.F k) : RM w' x N S T A := by
  obtain ⟨cs, ct, ca, h1, h3, h4, h5, h6, h7⟩ := h
  exact ⟨cs, ct, ca, h1, h3, h4.turn t (fun q => hF _ q (.inl rfl)), h5.turn t (fun q => hF _ q (.inr (.inl rfl))), h6.turn t (fun q => hF _ q (.inr (.inr (.inl rfl)))), h7.turn t (fun q => hF _ q (.inr (.inr (.inr rfl))))⟩
theorem RM.keep (h : RM w x N S T A) (g : Grow w w') : RM w' x N S T A := h.turn (Turn.grow g fun _ => False) (fun _ q => q.elim)
theorem RM.lenS (h : RM w x N S T A) : S.length = 8 * N := by obtain ⟨cs, ct, ca, h1, h3, h4, h5, h6, h7⟩ := h; have := h5.1; rw [bvs_length] at this; omega
theorem RM.lenT (h : RM w x N S T A) : T.length = 8 * N := by obtain ⟨cs, ct, ca, h1, h3, h4, h5, h6, h7⟩ := h; have := h6.1; rw [bvs_length] at this; omega
theorem RM.lenA (h : RM w x N S T A) : A.length = N := by obtain ⟨cs, ct, ca, h1, h3, h4, h5, h6, h7⟩ := h; have := h7.1; simpa [tbs] using this
theorem RM.bound (h : RM w x N S T A) : N % 8 = 0 ∧ 8 ≤ N ∧ N ≤ 131072 := by obtain ⟨cs, ct, ca, h1, h3, h4, h5, h6, h7⟩ := h; exact h1
theorem RM.lt (h : RM w x N S T A) : ∀ k, x.F k → k < w.heap.size := by
  obtain ⟨cs, ct, ca, h1, h3, h4, h5, h6, h7⟩ := h
  rintro k (rfl | rfl | rfl | rfl)
  · exact h4.lt
  · exact h5.lt
  · exact h6.lt
  · exact h7.lt
theorem RM.view (h : RM w x N S T A) : ∃ cs ct ca, 8 * N ≤ cs ∧ 8 * N ≤ ct ∧ N ≤ ca ∧ w.cell? ⟨x.p, 0, none⟩ = some (.slice (some ⟨x.gs, 0, none⟩) (8 * N) cs) ∧ w.cell? ⟨x.p, 1, none⟩ = some (.slice (some ⟨x.gt, 0, none⟩) (8 * N) ct) ∧ w.cell? ⟨x.p, 2, none⟩ = some (.slice (some ⟨x.b, 0, none⟩) N ca) ∧ x.p < w.heap.size := by
  obtain ⟨cs, ct, ca, h1, h3, h4, h5, h6, h7⟩ := h
  exact ⟨cs, ct, ca, h5.2.1, h6.2.1, h7.2.1, h4.cell rfl, h4.cell rfl, h4.cell rfl, h4.lt⟩
theorem RM.look (h : RM w x N S T A) : ∃ L cs ct ca, Hid (L = 8 * N) ∧ L ≤ cs ∧ L ≤ ct ∧ N ≤ ca ∧ w.cell? ⟨x.p, 0, none⟩ = some (.slice (some ⟨x.gs, 0, none⟩) L cs) ∧ w.cell? ⟨x.p, 1, none⟩ = some (.slice (some ⟨x.gt, 0, none⟩) L ct) ∧ w.cell? ⟨x.p, 2, none⟩ = some (.slice (some ⟨x.b, 0, none⟩) N ca) ∧ x.p < w.heap.size := by
  obtain ⟨cs, ct, ca, h1, h2, h3, h4, h5, h6, h7⟩ := h.view
  exact ⟨_, cs, ct, ca, Lib.hid rfl, h1, h2, h3, h4, h5, h6, h7⟩
theorem RM.seenAt (h : RM w x N S T A) {j : Nat} (hj : j < 8 * N) : w.cell? ⟨x.gs, j, none⟩ = some (.int .u8 ((S.getD j 0).toNat : Int)) ∧ w.frozen? ⟨x.gs, j, none⟩ = false := by
  have hl := h.lenS
  obtain ⟨cs, ct, ca, h1, h3, h4, h5, h6, h7⟩ := h
  exact ⟨h5.cell (bvs_at (by omega)), h5.frozen j⟩
theorem RM.lastAt (h : RM w x N S T A) {j : Nat} (hj : j < 8 * N) : w.cell? ⟨x.gt, j, none⟩ = some (.int .u8 ((T.getD j 0).toNat : Int)) ∧ w.frozen? ⟨x.gt, j, none⟩ = false := by
  have hl := h.lenT
  obtain ⟨cs, ct, ca, h1, h3, h4, h5, h6, h7⟩ := h
  exact ⟨h6.cell (bvs_at (by omega)), h6.frozen j⟩
theorem RM.awayAt (h : RM w x N S T A) {k : Nat} (hk : k < N) : w.cell? ⟨x.b, k, none⟩ = some (.bool (A.getD k false)) ∧ w.frozen? ⟨x.b, k, none⟩ = false := by
  have hl := h.lenA
  obtain ⟨cs, ct, ca, h1, h3, h4, h5, h6, h7⟩ := h
  exact ⟨h7.cell (tbs_at (by omega)), h7.frozen k⟩
theorem RM.seenSet (h : RM w x N S T A) (j : Nat) (u : UInt8) : RM (w.setCell ⟨x.gs, j, none⟩ (.int .u8 (u.toNat : Int))) x N (S.set j u) T A ∧ Turn x.F w (w.setCell ⟨x.gs, j, none⟩ (.int .u8 (u.toNat : Int))) := by
  obtain ⟨cs, ct, ca, h1, h3, h4, h5, h6, h7⟩ := h
  have hk : ∀ k, k ≠ x.gs → (w.setCell ⟨x.gs, j, none⟩ (.int .u8 (u.toNat : Int))).heap[k]? = w.heap[k]? := fun k hk => Below.heap_setCell _ _ _ _ hk
  refine ⟨⟨cs, ct, ca, h1, h3, h4.same (hk _ h3.1), ?_, h6.same (hk _ (Ne.symm h3.2.2.2.1)), h7.same (hk _ (Ne.symm h3.2.2.2.2.1))⟩, Turn.setCell w (.inr (.inl rfl)) _⟩
  have := h5.set j (bv u)
  rwa [bvs_set] at this
theorem RM.lastSet (h : RM w x N S T A) (j : Nat) (u : UInt8) : RM (w.setCell ⟨x.gt, j, none⟩ (.int .u8 (u.toNat : Int))) x N S (T.set j u) A ∧ Turn x.F w (w.setCell ⟨x.gt, j, none⟩ (.int .u8 (u.toNat : Int))) := by
  obtain ⟨cs, ct, ca, h1, h3, h4, h5, h6, h7⟩ := h
  have hk : ∀ k, k ≠ x.gt → (w.setCell ⟨x.gt, j, none⟩ (.int .u8 (u.toNat : Int))).heap[k]? = w.heap[k]? := fun k hk => Below.heap_setCell _ _ _ _ hk
  refine ⟨⟨cs, ct, ca, h1, h3, h4.same (hk _ h3.2.1), h5.same (hk _ h3.2.2.2.1), ?_, h7.same (hk _ (Ne.symm h3.2.2.2.2.2))⟩, Turn.setCell w (.inr (.inr (.inl rfl))) _⟩
  have := h6.set j (bv u)
  rwa [bvs_set] at this
theorem RM.awaySet (h : RM w x N S T A) (j : Nat) (v : Bool) : RM (w.setCell ⟨x.b, j, none⟩ (.bool v)) x N S T (A.set j v) ∧ Turn x.F w (w.setCell ⟨x.b, j, none⟩ (.bool v)) := by
  obtain ⟨cs, ct, ca, h1, h3, h4, h5, h6, h7⟩ := h
  have hk : ∀ k, k ≠ x.b → (w.setCell ⟨x.b, j, none⟩ (.bool v)).heap[k]? = w.heap[k]? := fun k hk => Below.heap_setCell _ _ _ _ hk
  refine ⟨⟨cs, ct, ca, h1, h3, h4.same (hk _ h3.2.2.1), h5.same (hk _ h3.2.2.2.2.1), h6.same (hk _ h3.2.2.2.2.2), ?_⟩, Turn.setCell w (.inr (.inr (.inr rfl))) _⟩
  have := h7.set j (.bool v)
  rwa [show (tbs A).set j (.bool v) = tbs (A.set j v) by simp [tbs, List.map_set]] at this
end

theorem rm_within {w : World} {x : MB} {N : Nat} {S T : List UInt8} {A : List Bool} (h : RM w x N S T A) (at_ n : Int) :
    Calls Try.prog 67 #[.pointer (some ⟨x.p, 0, none⟩), .int .i64 at_, .int .i64 n] w fun e w' => e = .returned (.bool (inW (8 * N) at_ n)) ∧ w = w' := by
  obtain ⟨hb1, hb2, hb3⟩ := h.bound
  obtain ⟨cs, ct, ca, -, -, -, c0, -, -, l0⟩ := h.view
  obtain ⟨L, hL⟩ : ∃ L, L = 8 * N := ⟨_, rfl⟩
  rw [← hL] at c0 ⊢
  by_cases h1 : 0 ≤ at_
  · by_cases h2 : 0 ≤ n
    · by_cases h3 : at_ ≤ (L : Int)
      · have e1 : wrap64 ((L : Int) - at_) = (L : Int) - at_ := IntWalk.wrap64_in _ (by omega)
        have e2 : inW L at_ n = decide (n ≤ (L : Int) - at_) := by clear e1; simp only [inW]; congr 1; apply propext; omega
        have d1 : decide (0 ≤ at_) = true := decide_eq_true h1
        have d2 : decide (0 ≤ n) = true := decide_eq_true h2
        have d3 : decide (at_ ≤ (L : Int)) = true := decide_eq_true h3
        rw [e2]
        clear e2 h h1 h2 h3 hL hb3
        go_enter Try.func67, Try.ntmps67
        go_wp2_with fail
        go_ret
        exact ⟨rfl, rfl⟩
      · have e2 : inW L at_ n = false := by simp only [inW]; apply decide_eq_false; omega
        have d1 : decide (0 ≤ at_) = true := decide_eq_true h1
        have d2 : decide (0 ≤ n) = true := decide_eq_true h2
        have d3 : decide (at_ ≤ (L : Int)) = false := decide_eq_false h3
        rw [e2]
        clear e2 h h1 h2 h3 hL hb3
        go_enter Try.func67, Try.ntmps67
        go_wp2_with fail
        go_ret
        exact ⟨rfl, rfl⟩
    · have e2 : inW L at_ n = false := by simp only [inW]; apply decide_eq_false; omega
      have d1 : decide (0 ≤ at_) = true := decide_eq_true h1
      have d2 : decide (0 ≤ n) = false := decide_eq_false h2
      rw [e2]
      clear e2 h h1 h2 hL hb3
      go_enter Try.func67, Try.ntmps67
      go_wp2_with fail
      go_ret
      exact ⟨rfl, rfl⟩
  · have e2 : inW L at_ n = false := by simp only [inW]; apply decide_eq_false; omega
    have d1 : decide (0 ≤ at_) = false := decide_eq_false h1
    rw [e2]
    clear e2 h h1 hL hb3
    go_enter Try.func67, Try.ntmps67
    go_wp2_with fail
    go_ret
    exact ⟨rfl, rfl⟩
end Go.Proofs.Ytlinlmimakealaa

namespace Go.Proofs.Ytlinlmimakealaa
open Go.RowKit

theorem wrap8 {k N : Nat} (h : k < N) (h' : N ≤ 131072) : wrap64 (8 * (k : Int)) = 8 * (k : Int) ∧ wrap64 (8 * (k : Int) + 8) = 8 * (k : Int) + 8 := ⟨IntWalk.wrap64_in _ (by omega), IntWalk.wrap64_in _ (by omega)⟩
def RDirtyInv (w wr : World) (S T : List UInt8) (k : Nat) (t : Value) : Prop := ∃ i : Nat, t = .int .i64 (i : Int) ∧ 8 * k ≤ i ∧ i ≤ 8 * k + 8 ∧ (∀ j, 8 * k ≤ j → j < i → S.getD j 0 = T.getD j 0) ∧ Grow w wr
theorem dirtyB_true {S T : List UInt8} {k i : Nat} (h1 : 8 * k ≤ i) (h2 : i < 8 * k + 8) (h : S.getD i 0 ≠ T.getD i 0) : dirtyB S T k = true := by
  unfold dirtyB
  refine List.any_eq_true.2 ⟨i - 8 * k, by simp; omega, ?_⟩
  rw [show 8 * k + (i - 8 * k) = i by omega]
  simpa using h
theorem dirtyB_false {S T : List UInt8} {k : Nat} (h : ∀ j, 8 * k ≤ j → j < 8 * k + 8 → S.getD j 0 = T.getD j 0) : dirtyB S T k = false := by
  unfold dirtyB
  refine List.any_eq_false.2 fun j hj => ?_
  have := h (8 * k + j) (by omega) (by simp at hj; omega)
  simp only [this, bne_self_eq_false, Bool.false_eq_true, not_false_eq_true]

set_option maxHeartbeats 2000000 in
set_option maxRecDepth 8000 in
theorem rm_dirty1 {w : World} {x : MB} {N : Nat} {S T : List UInt8} {A : List Bool} (h : RM w x N S T A) (k : Nat) (hk : k < N) :
    Calls Try.prog 82 #[.pointer (some ⟨x.p, 0, none⟩), .int .i64 (k : Nat)] w fun e w' => e = .returned (.bool (dirtyB S T k)) ∧ Grow w w' := by
  have HB := Lib.hid h.bound.2.2
  have H := Lib.hid h
  obtain ⟨p1, p2⟩ := wrap8 hk HB.out
  obtain ⟨c, hc⟩ : ∃ c, c = 8 * k := ⟨_, rfl⟩
  have hcc : 8 * (k : Int) = (c : Int) := by clear p1 p2; omega
  rw [hcc] at p1 p2
  have HC := Lib.hid hc
  clear h hc
  go_enter Try.func82, Try.ntmps82
  go_wp2_with fail
  simp only [p1]
  go_loopw [5] (fun t wr => RDirtyInv w wr S T k t) (fun t _ => c + 8 - (intOf t).toNat)
  case atStart => exact ⟨c, rfl, by rw [HC.out]; exact Nat.le_refl _, by rw [HC.out]; exact Nat.le_add_right _ _, fun j h1 h2 => by rw [HC.out] at h2; exact absurd h1 (Nat.not_le.2 h2), Grow.refl _⟩
  case round =>
    obtain ⟨i, rfl, hi1, hi2, hS, G⟩ := hrel
    rw [← HC.out] at hi1 hi2
    by_cases hlt : i < c + 8
    · have z1 : decide ((i : Int) < (c : Int) + 8) = true := decide_eq_true (by clear p1 p2 hcc; omega)
      have hiN : i < 8 * N := by have := HC.out; clear p1 p2 hcc; omega
      obtain ⟨L, cs, ct, ca, HLL, hcs, hct, -, c0, c1, -, l0⟩ := (H.out.keep G).look
      have hiL : i < L := by rw [HLL.out]; exact hiN
      obtain ⟨s0, -⟩ := (H.out.keep G).seenAt hiN
      obtain ⟨t0, -⟩ := (H.out.keep G).lastAt hiN
      obtain ⟨u, hu⟩ : ∃ u, u = S.getD i 0 := ⟨_, rfl⟩
      obtain ⟨v, hv⟩ : ∃ v, v = T.getD i 0 := ⟨_, rfl⟩
      rw [← hu] at s0
      rw [← hv] at t0
      have e5 := wrapS hiN (Nat.mul_le_mul_left 8 HB.out)
      have HS := Lib.hid hS
      have HU := Lib.hid hu
      have HV := Lib.hid hv
      have HI1 := Lib.hid hi1
      clear hS hu hv hi2 hi1 hiN
      by_cases he : u = v
      · have hq : ((u.toNat : Int) != (v.toNat : Int)) = false := by simp [he]
        have X : ∀ w2, Grow w w2 → RDirtyInv w w2 S T k (.int .i64 ((i : Int) + 1)) := fun w2 g => ⟨i + 1, by simp, by rw [← HC.out]; exact Nat.le_succ_of_le HI1.out, by rw [← HC.out]; exact hlt, fun j h1 h2 => by
          by_cases e : j = i
          · subst e; rw [← HU.out, ← HV.out, he]
          · exact HS.out j h1 (by clear p1 p2 hcc e5; omega), g⟩
        have HX := Lib.hid X
        clear X he
        go_wp2_with fail
        go_quiet (fail)
        go_wp2_with fail
        go_roundw
        case rel => (try rw [e5]); first | exact HX.out _ (G.drewN _) | ((repeat apply Exists.intro); exact HX.out _ (G.drewN _)) | ((repeat apply Exists.intro); refine ⟨HX.out _ (G.drewN _), ?_⟩; rfl)
        case measure => first | exact meas hlt | exact measW hlt e5
      · have hq : ((u.toNat : Int) != (v.toNat : Int)) = true := by rw [bne_iff_ne]; exact fun q => he (UInt8.toNat_inj.1 (by clear p1 p2 hcc e5; omega))
        have HD := Lib.hid (dirtyB_true (S := S) (T := T) (k := k) (i := i) (by rw [← HC.out]; exact HI1.out) (by rw [← HC.out]; exact hlt) (by rw [← HU.out, ← HV.out]; exact he))
        clear he
        go_wp2_with fail
        go_quiet (fail)
        go_wp2_with fail
        go_ret
        exact ⟨by rw [HD.out]; rfl, G.drewN _⟩
    · have z1 : decide ((i : Int) < (c : Int) + 8) = false := decide_eq_false (by clear p1 p2 hcc; omega)
      have HD := Lib.hid (dirtyB_false (S := S) (T := T) (k := k) (fun j h1 h2 => hS j h1 (by have := HC.out; clear p1 p2 hcc; omega)))
      clear hS
      go_wp2_with fail
      go_ret
      exact ⟨by rw [HD.out]; rfl, G⟩

def RKeepInv (w wr : World) (x : MB) (N : Nat) (S T : List UInt8) (A : List Bool) (k : Nat) (t : Value) : Prop := ∃ i : Nat, t = .int .i64 (i : Int) ∧ 8 * k ≤ i ∧ i ≤ 8 * k + 8 ∧ RM wr x N S (keepN S T (8 * k) (i - 8 * k)) A ∧ Turn x.F w wr

set_option maxHeartbeats 2000000 in
set_option maxRecDepth 8000 in
theorem rm_keep {w : World} {x : MB} {N : Nat} {S T : List UInt8} {A : List Bool} (h : RM w x N S T A) (k : Nat) (hk : k < N) :
    Calls Try.prog 71 #[.pointer (some ⟨x.p, 0, none⟩), .int .i64 (k : Nat)] w fun e w' => e = .returned (.tuple #[]) ∧ RM w' x N S (keepN S T (8 * k) 8) (A.set k false) ∧ Turn x.F w w' := by
  have HB := Lib.hid h.bound.2.2
  have H := Lib.hid h
  obtain ⟨p1, p2⟩ := wrap8 hk HB.out
  obtain ⟨c, hc⟩ : ∃ c, c = 8 * k := ⟨_, rfl⟩
  have hcc : 8 * (k : Int) = (c : Int) := by clear p1 p2; omega
  rw [hcc] at p1 p2
  have HC := Lib.hid hc
  clear h hc
  go_enter Try.func71, Try.ntmps71
  go_wp2_with fail
  simp only [p1]
  go_loopw [4] (fun t wr => RKeepInv w wr x N S T A k t) (fun t _ => c + 8 - (intOf t).toNat)
  case atStart => exact ⟨c, rfl, by rw [HC.out]; exact Nat.le_refl _, by rw [HC.out]; exact Nat.le_add_right _ _, by rw [HC.out, Nat.sub_self]; exact H.out, Turn.refl _ _⟩
  case round =>
    obtain ⟨i, rfl, hi1, hi2, hP, ht⟩ := hrel
    rw [← HC.out] at hi1 hi2
    by_cases hlt : i < c + 8
    · have z1 : decide ((i : Int) < (c : Int) + 8) = true := decide_eq_true (by clear p1 p2 hcc; omega)
      have hiN : i < 8 * N := by have := HC.out; clear p1 p2 hcc; omega
      obtain ⟨L, cs, ct, ca, HLL, hcs, hct, -, c0, c1, -, l0⟩ := hP.look
      have hiL : i < L := by rw [HLL.out]; exact hiN
      obtain ⟨s0, -⟩ := hP.seenAt hiN
      obtain ⟨t0, f0⟩ := hP.lastAt hiN
      obtain ⟨u, hu⟩ : ∃ u, u = S.getD i 0 := ⟨_, rfl⟩
      rw [← hu] at s0
      have e5 := wrapS hiN (Nat.mul_le_mul_left 8 HB.out)
      obtain ⟨hP2, t2⟩ := hP.lastSet i u
      have hstep : (keepN S T (8 * k) (i - 8 * k)).set i u = keepN S T (8 * k) (i + 1 - 8 * k) := by
        have hc1 := HC.out
        rw [show i + 1 - 8 * k = (i - 8 * k) + 1 by clear p1 p2 hcc e5; omega, keepN, show 8 * k + (i - 8 * k) = i by clear p1 p2 hcc e5; omega, hu]
      rw [hstep] at hP2
      have HP2 := Lib.hid hP2
      have HT2 := Lib.hid (ht.and t2)
      have HI1 := Lib.hid hi1
      have X : RKeepInv w (wr.setCell ⟨x.gt, i, none⟩ (.int .u8 (u.toNat : Int))).drew x N S T A k (.int .i64 ((i : Int) + 1)) := ⟨i + 1, by simp, by rw [← HC.out]; exact Nat.le_succ_of_le HI1.out, by rw [← HC.out]; exact hlt, HP2.out.keep ((Grow.refl _).drew), HT2.out.andGrow ((Grow.refl _).drew)⟩
      clear hP ht hP2 t2 hstep hu hi2 hi1 hiN
      go_wp2_with fail
      go_region
      go_wp2_with fail
      go_roundw
      case rel => (try rw [e5]); first | exact X | ((repeat apply Exists.intro); exact X) | ((repeat apply Exists.intro); refine ⟨X, ?_⟩; rfl)
      case measure => first | exact meas hlt | exact measW hlt e5
    · have z1 : decide ((i : Int) < (c : Int) + 8) = false := decide_eq_false (by clear p1 p2 hcc; omega)
      obtain rfl : i = c + 8 := by clear p1 p2 hcc; omega
      have hP0 : RM wr x N S (keepN S T (8 * k) 8) A := by rw [← HC.out] at hP ⊢; rw [Nat.add_sub_cancel_left] at hP; exact hP
      obtain ⟨L, cs, ct, ca, HLL, hcs, hct, hca, -, -, c2, l0⟩ := hP0.look
      obtain ⟨a0, f0⟩ := hP0.awayAt hk
      obtain ⟨hP2, t2⟩ := hP0.awaySet k false
      have HP2 := Lib.hid hP2
      have HT2 := Lib.hid (ht.and t2)
      clear hP ht hP0 hP2 t2
      go_wp2_with fail
      go_end0
      exact ⟨rfl, HP2.out, HT2.out⟩
end Go.Proofs.Ytlinlmimakealaa

namespace Go.Proofs.Ytlinlmimakealaa
open Go.RowKit

def zrow (N : Nat) : Array Value := Array.replicate (N * 8) (.int .u8 0)
theorem zrow_eq (N : Nat) : madeCells (Value.agg #[.int .u8 0, .int .u8 0, .int .u8 0, .int .u8 0, .int .u8 0, .int .u8 0, .int .u8 0, .int .u8 0]).cells (N * 8) = zrow N := by
  apply Array.ext
  · simp [madeCells, zrow]
  · intro j h1 h2
    have : j % 8 = 0 ∨ j % 8 = 1 ∨ j % 8 = 2 ∨ j % 8 = 3 ∨ j % 8 = 4 ∨ j % 8 = 5 ∨ j % 8 = 6 ∨ j % 8 = 7 := by omega
    rcases this with h | h | h | h | h | h | h | h <;> simp [madeCells, zrow, Value.cells, h]
theorem make_cells (N : Nat) (hN : N ≤ 131072) (w : World) : (Instr.makeSlice 73 (.int .i64 (N : Int)) (.int .i64 (N : Int))).run Try.prog w = .ok (.slice (some ⟨w.heap.size, 0, none⟩) N N) (w.alloc (.cells (zrow N) 79)) := by
  obtain ⟨i0, hi, hz, h1, h2⟩ := info_parts cell_info
  have := run_make (P := Try.prog) w 73 79 i0 _ Try.underlying73 hi hz .i64 .i64 N N (by omega) (Int.le_refl _) (by rw [h2]; omega) (by omega)
  simp only [Int.toNat_natCast, h1, zrow_eq] at this
  exact this
theorem CR.zero {w : World} {g N : Nat} (h : w.heap[g]? = some (.cells (zrow N) 79)) (hN : N ≤ 131072) : CR w g 79 8 N N (bvs (List.replicate (8 * N) 0)) := by
  refine ⟨by simp [bvs]; omega, Nat.le_refl _, by unfold maxLen; omega, _, h, by simp [zrow], ?_⟩
  rw [List.take_of_length_le (by simp [zrow])]
  simp [zrow, bvs, bv, Nat.mul_comm]
theorem pm_made {w : World} {p gs gt b N : Nat} (hN : N % 8 = 0 ∧ 8 ≤ N ∧ N ≤ 131072) (hap : (⟨p, gs, gt, b⟩ : MB).apart) (h1 : w.heap[p]? = some (.cells #[.slice (some ⟨gs, 0, none⟩) N N, .slice (some ⟨gt, 0, none⟩) N N, .map (some b)] 76))
    (h2 : w.heap[gs]? = some (.cells (zrow N) 79)) (h3 : w.heap[gt]? = some (.cells (zrow N) 79)) (h4 : w.heap[b]? = some (.map #[] 0)) :
    PM w ⟨p, gs, gt, b⟩ N (List.replicate (8 * N) 0) (List.replicate (8 * N) 0) (List.replicate N false) := by
  refine ⟨N, N, hN, by simp, hap, ⟨rfl, Nat.le_refl _, by unfold maxLen; omega, _, h1, rfl, rfl⟩, CR.zero h2 hN.2.2, CR.zero h3 hN.2.2, ⟨.map [], ⟨#[], 0, h4, ⟨by simp, Go.MapKept.stamped_empty 0, by simp⟩, Nat.zero_le _, rfl⟩, fun kl => ?_⟩⟩
  simp [Maps.has, List.getElem?_replicate]

theorem alloc4 (w : World) (a b c d : Obj) : ((((w.alloc a).alloc b).alloc c).alloc d).drew.heap[w.heap.size]? = some a ∧ ((((w.alloc a).alloc b).alloc c).alloc d).drew.heap[w.heap.size + 1]? = some b ∧ ((((w.alloc a).alloc b).alloc c).alloc d).drew.heap[w.heap.size + 1 + 1]? = some c ∧ ((((w.alloc a).alloc b).alloc c).alloc d).drew.heap[w.heap.size + 1 + 1 + 1]? = some d := by
  have hn : ∀ (W : World) (o : Obj), (W.alloc o).heap[W.heap.size]? = some o := fun W o => (MapKept.heap_alloc W o).1
  have hk : ∀ (W : World) (o : Obj) (i : Nat), i < W.heap.size → (W.alloc o).heap[i]? = W.heap[i]? := fun W o i h => (MapKept.heap_alloc W o).2 i h
  have s1 : (w.alloc a).heap.size = w.heap.size + 1 := by simp
  have s2 : ((w.alloc a).alloc b).heap.size = w.heap.size + 1 + 1 := by simp
  have s3 : (((w.alloc a).alloc b).alloc c).heap.size = w.heap.size + 1 + 1 + 1 := by simp
  have h1 := hn w a
  have h2 := hn (w.alloc a) b
  have h3 := hn ((w.alloc a).alloc b) c
  have h4 := hn (((w.alloc a).alloc b).alloc c) d
  rw [s1] at h2
  rw [s2] at h3
  rw [s3] at h4
  refine ⟨?_, ?_, ?_, ?_⟩
  · exact (hk _ d _ (by omega)).trans ((hk _ c _ (by omega)).trans ((hk _ b _ (by omega)).trans h1))
  · exact (hk _ d _ (by omega)).trans ((hk _ c _ (by omega)).trans h2)
  · exact (hk _ d _ (by omega)).trans h3
  · exact h4

def sizeB (n : Int) : Bool := decide (64 ≤ n ∧ n ≤ 1048576 ∧ n % 64 = 0)
theorem sizeB_iff {n : Int} : sizeB n = true ↔ 64 ≤ n ∧ n ≤ 1048576 ∧ n % 64 = 0 := by simp [sizeB]
theorem pm_new_no (n : Int) (h : sizeB n = false) (w : World) :
    Calls Try.prog 28 #[.int .i64 n] w fun e w' => e = .returned (.pointer none) ∧ w = w' := by
  have h0 : ¬ (64 ≤ n ∧ n ≤ 1048576 ∧ n % 64 = 0) := fun q => by rw [sizeB_iff.2 q] at h; cases h
  by_cases h1 : n < 64
  · have z1 : decide (n < 64) = true := decide_eq_true h1
    clear h h0 h1
    go_enter Try.func28, Try.ntmps28
    go_wp2_with fail
    go_ret
    exact ⟨rfl, rfl⟩
  · have z1 : decide (n < 64) = false := decide_eq_false h1
    by_cases h2 : 1048576 < n
    · have z2 : decide (1048576 < n) = true := decide_eq_true h2
      clear h h0 h1 h2
      go_enter Try.func28, Try.ntmps28
      go_wp2_with fail
      go_ret
      exact ⟨rfl, rfl⟩
    · have z2 : decide (1048576 < n) = false := decide_eq_false h2
      have z3 : (Int.tmod n 64 != 0) = true := by rw [Int.tmod_eq_emod_of_nonneg (by omega), bne_iff_ne]; omega
      clear h h0 h1 h2
      go_enter Try.func28, Try.ntmps28
      go_wp2_with fail
      go_ret
      exact ⟨rfl, rfl⟩
set_option maxHeartbeats 2000000 in
theorem pm_new_yes (N : Nat) (hN : N % 8 = 0 ∧ 8 ≤ N ∧ N ≤ 131072) (w : World) :
    Calls Try.prog 28 #[.int .i64 (8 * N : Nat)] w fun e w' => ∃ x : MB, e = .returned (.pointer (some ⟨x.p, 0, none⟩)) ∧ PM w' x N (List.replicate (8 * N) 0) (List.replicate (8 * N) 0) (List.replicate N false) ∧ (∀ k, x.F k → w.heap.size ≤ k) ∧ Grow w w' := by
  obtain ⟨n, hn⟩ : ∃ n, n = 8 * N := ⟨_, rfl⟩
  have z1 : decide ((n : Int) < 64) = false := decide_eq_false (by omega)
  have z2 : decide (1048576 < (n : Int)) = false := decide_eq_false (by omega)
  have z3 : (Int.tmod (n : Int) 64 != 0) = false := by rw [Int.tmod_eq_emod_of_nonneg (by omega), show (n : Int) % 64 = 0 by omega]; rfl
  have z4 : ((n : Int) % 64 != 0) = false := by rw [show (n : Int) % 64 = 0 by omega]; rfl
  have e0 : (n : Int) / 8 = (N : Int) := by clear z1 z2 z3 z4; omega
  have e1 : Int.tdiv (n : Int) 8 = (N : Int) := by clear e0; rw [Int.tdiv_eq_ediv_of_nonneg (by omega)]; omega
  have e2 := wrap_small (q := N) (by have := hN.2.2; clear z1 z2 z3 z4 e0 e1; omega)
  have hmk := make_cells N hN.2.2
  have hmm := @run_makeMap Try.prog
  have HN := Lib.hid hN
  have HNN := Lib.hid hn
  rw [← hn]
  clear hn hN
  go_enter Try.func28, Try.ntmps28
  go_upto_region 4 with (fail)
  go_cut [2] (fun s wx => ∃ x : MB, s = .pointer (some ⟨x.p, 0, none⟩) ∧ PM wx x N (List.replicate n 0) (List.replicate n 0) (List.replicate N false) ∧ (∀ k, x.F k → w.heap.size ≤ k) ∧ Grow w wx)
  case first =>
    go_region
    all_goals
      go_wp2_with fail
      go_meet
    all_goals
      obtain ⟨q0, q1, q2, q3⟩ := alloc4 w _ _ _ _
      first
        | exact ⟨⟨w.heap.size + 1 + 1 + 1, w.heap.size, w.heap.size + 1, w.heap.size + 1 + 1⟩, rfl, by rw [HNN.out]; exact pm_made HN.out (by unfold MB.apart; simp; try omega) q3 q0 q1 q2, fun k hk => by (rcases hk with h | h | h | h <;> simp at h <;> omega), (((((Grow.refl w).alloc _).alloc _).alloc _).alloc _).drew⟩
        | exact ⟨⟨w.heap.size + 1 + 1 + 1, w.heap.size, w.heap.size + 1 + 1, w.heap.size + 1⟩, rfl, by rw [HNN.out]; exact pm_made HN.out (by unfold MB.apart; simp; try omega) q3 q0 q2 q1, fun k hk => by (rcases hk with h | h | h | h <;> simp at h <;> omega), (((((Grow.refl w).alloc _).alloc _).alloc _).alloc _).drew⟩
        | exact ⟨⟨w.heap.size + 1 + 1 + 1, w.heap.size + 1, w.heap.size, w.heap.size + 1 + 1⟩, rfl, by rw [HNN.out]; exact pm_made HN.out (by unfold MB.apart; simp; try omega) q3 q1 q0 q2, fun k hk => by (rcases hk with h | h | h | h <;> simp at h <;> omega), (((((Grow.refl w).alloc _).alloc _).alloc _).alloc _).drew⟩
        | exact ⟨⟨w.heap.size + 1 + 1 + 1, w.heap.size + 1, w.heap.size + 1 + 1, w.heap.size⟩, rfl, by rw [HNN.out]; exact pm_made HN.out (by unfold MB.apart; simp; try omega) q3 q1 q2 q0, fun k hk => by (rcases hk with h | h | h | h <;> simp at h <;> omega), (((((Grow.refl w).alloc _).alloc _).alloc _).alloc _).drew⟩
        | exact ⟨⟨w.heap.size + 1 + 1 + 1, w.heap.size + 1 + 1, w.heap.size, w.heap.size + 1⟩, rfl, by rw [HNN.out]; exact pm_made HN.out (by unfold MB.apart; simp; try omega) q3 q2 q0 q1, fun k hk => by (rcases hk with h | h | h | h <;> simp at h <;> omega), (((((Grow.refl w).alloc _).alloc _).alloc _).alloc _).drew⟩
        | exact ⟨⟨w.heap.size + 1 + 1 + 1, w.heap.size + 1 + 1, w.heap.size + 1, w.heap.size⟩, rfl, by rw [HNN.out]; exact pm_made HN.out (by unfold MB.apart; simp; try omega) q3 q2 q1 q0, fun k hk => by (rcases hk with h | h | h | h <;> simp at h <;> omega), (((((Grow.refl w).alloc _).alloc _).alloc _).alloc _).drew⟩
  case rest =>
    obtain ⟨x, rfl, h1, h2, h3⟩ := hcut
    go_wp2_with fail
    go_ret
    exact ⟨x, rfl, h1, h2, h3⟩
end Go.Proofs.Ytlinlmimakealaa
