/- pmem: Fence, deferred. Rows of noughts that a call makes. plog: keep, End, Clear. plog.New, and where the document has a log. No statement of the seat is proved here. -/
import Derived.Test.YtncjfljmnkfghaaZ05
import Derived.Defers
import Derived.Test.YtncjfljmnkfghaaZ02
import Derived.Test.YtncjfljmnkfghaaZ12
import Derived.Test.YtncjfljmnkfghaaZ08
import Derived.Deep.RegionWith
import Derived.Deep.RegionHeld3
namespace Go.Proofs.Ytncjfljmnkfghaa
open Go.RowKit Go.Maps

set_option maxHeartbeats 2000000 in
theorem pm_fence_d (u : FrameMode) {w : World} {x : MB} {N : Nat} {S T : List UInt8} {A : List Bool} (h : PM w x N S T A) :
    CallsD Try.prog 36 #[.pointer (some ⟨x.p, 0, none⟩)] u w fun e u' w' => u' = u ∧ (e = .returned (.tuple #[]) ∧ PM w' x N S (mixL S T fun k => A.getD k false) (List.replicate N false) ∧ Turn x.F w w') := by
  obtain ⟨cs, ct, hcs, hct, c0, c1, c2, l0⟩ := h.view
  obtain ⟨D, hD1, hD2⟩ := h.isSet
  have hl := h.lenA
  rw [hl] at hD1
  have H := Lib.hid h
  have HL := Lib.hid hl
  have HD := Lib.hid hD2
  have HLT := Lib.hid h.lt
  clear h hl hD2
  go_enter_d Try.func36, Try.ntmps36
  go_wp2_with (at_range; refine wpList_range_own _ rfl (.tmp 6) 80 rfl 3 4 int_keyed' Try.underlying80 _ x.b N D rfl hD1 ?_; intro w0 hrg0 hg0 hs0)
  go_frame
  clear c0 c1 c2 l0 hD1
  go_loopw [2] (fun _ wr => FenceInv w wr x N S T A w.heap.size) (fun _ wr => wr.rangeLeft x.b w.heap.size)
  case atStart =>
    refine ⟨_, _, _, hrg0, fun kl hk => (HD.out kl).1 hk, ?_, Turn.grown hg0 (fun j hj => by cases hj)⟩
    have hT : fenceT S T A (Maps.has D) = T := mixL_none S T fun k => by
      cases ha : A.getD k false with
      | false => rfl
      | true =>
        have : Maps.has D (keyL k) = true := (HD.out _).2 ⟨k, rfl, by rw [List.getD_eq_getElem?_getD] at ha; cases hk : A[k]? with | none => rw [hk] at ha; cases ha | some v => rw [hk] at ha; rw [show v = true from ha]⟩
        rw [this]; rfl
    have hA : fenceA N (Maps.has D) = A := by
      apply List.ext_getElem?
      intro k
      rw [fenceA_get]
      by_cases hk : k < N
      · rw [if_pos hk]
        have hk' : k < A.length := by rw [HL.out]; exact hk
        rw [List.getElem?_eq_getElem hk']
        congr 1
        cases ha : A[k] with
        | true => exact (HD.out _).2 ⟨k, rfl, by rw [List.getElem?_eq_getElem hk', ha]⟩
        | false =>
          cases hh : Maps.has D (keyL k) with
          | false => rfl
          | true =>
            obtain ⟨j, hj, hj2⟩ := (HD.out _).1 hh
            obtain rfl := keyL_inj hj
            rw [List.getElem?_eq_getElem hk', ha] at hj2
            cases hj2
      · rw [if_neg hk, List.getElem?_eq_none (by rw [HL.out]; omega)]
    rw [hT, hA]
    exact H.out.turn (F := fun _ => False) (Turn.grown hg0 (fun j hj => by cases hj)) (fun _ q => q.elim)
  case round =>
    obtain ⟨left, cnt, D1, hrg, hleft, hP, ht⟩ := hrel
    have HLF := Lib.hid hleft
    have HRG := Lib.hid hrg
    have HP := Lib.hid hP
    clear hleft hP
    go_wp2_with (at_next; refine wpList_nextSet rfl (.tmp 7) rfl x.b w.heap.size N D1 left cnt rfl HRG.out HLF.out (fun hl0 => ?_) (fun k v w1 cnt1 hN hen => ?_))
    · have hP := HP.out
      rw [fenceT_end hl0, fenceA_end hl0] at hP
      go_end0
      exact ⟨rfl, hP, ht⟩
    · have hk : k < N := by have := (List.getElem?_eq_some_iff.1 hN.at_).1; rw [HL.out] at this; exact this
      have hnr : ¬ x.F w.heap.size := fun q => by have := HLT.out _ q; omega
      have tr : Turn (fun i => i = w.heap.size) wr w1 := Turn.grown hN.grow (fun j hj => by injection hj with hj; exact hj.symm)
      refine (pm_keep_r (HP.out.turn tr (fun i q => by subst q; exact hnr)) k hk hN.rg hnr).mono ?_
      rintro e w2 ⟨rfl, hP2, t2, cnt2, hle, hrg2⟩
      rw [Maps.strike_twice] at hrg2
      rw [fenceT_step hN.at_, fenceA_step] at hP2
      have X : FenceInv w w2 x N S T A w.heap.size := ⟨_, cnt2, _, hrg2, fun kl hk => HLF.out kl (by simp at hk; exact hk.1), hP2, (ht.trans tr (fun i q => by subst q; exact .inr (Nat.le_refl _))).and t2⟩
      have M : w2.rangeLeft x.b w.heap.size < wr.rangeLeft x.b w.heap.size := by rw [hrg2.left_eq, HRG.out.left_eq]; exact Nat.lt_of_le_of_lt hle hN.lt
      go_wp2_with fail
      go_roundw
      case rel => first | exact X | ((repeat apply Exists.intro); exact X) | ((repeat apply Exists.intro); refine ⟨X, ?_⟩; rfl)
      case measure => exact M
end Go.Proofs.Ytncjfljmnkfghaa

namespace Go.Proofs.Ytncjfljmnkfghaa
open Go.RowKit

theorem bvs_replicate (n : Nat) : bvs (List.replicate n 0) = List.replicate n (.int .u8 0) := by simp [bvs, bv]

/-- 'make([]byte, n)'. -/
theorem wpList_makeB {w : World} {ops : Array Oper} {rest : List Oper} {o : Oper} {a : Act} {Q : Exit → Act → World → Prop}
    (hg : o.guard = none) (l c : Operand) (hop : o.op = Op.makeSlice 24 l c)
    (base : Nat) (L C : Int) (n : Nat) (hl : a.eval l = .int .i64 L) (hc : a.eval c = .int .i64 C) (hL : L = (n : Int)) (hC : C = (n : Int)) (hn : n ≤ 17592186044416) (hb : base ≤ w.heap.size)
    (hK : ∀ w', OB w' base (.slice (some ⟨w.heap.size, 0, none⟩) n n) (List.replicate n 0) → Below base w w' → w.grownBy w' none → wpList Try.prog ops Q rest (a.put o.dst (.slice (some ⟨w.heap.size, 0, none⟩) n n)) w') :
    wpList Try.prog ops Q (o :: rest) a w := by
  obtain ⟨i0, hi, hz, h1, h2⟩ := info_parts byte_info
  refine wpList_make_full w hg l c _ hop base 5 i0 (.int .u8 0) 1 Try.underlying24 hi hz h1 .i64 .i64 L C n hl hc hL hC (by rw [h2]; omega) (by unfold maxLen; omega) hb ?_
  intro w' ho hgr
  refine hK w' ?_ ((Below.refl _ _).grown hgr hb (fun k hk => by cases hk)) hgr
  unfold OB
  rw [List.length_replicate, bvs_replicate]
  have e : (madeCells (Value.int .u8 0).cells (n * 1)).toList = List.replicate n (.int .u8 0) := by
    rw [Nat.mul_one]; exact toList_madeCells_one _ _
  rw [e] at ho
  exact ho

/-- 'make([]byte, 0, n)'. -/
theorem wpList_make0 {w : World} {ops : Array Oper} {rest : List Oper} {o : Oper} {a : Act} {Q : Exit → Act → World → Prop}
    (hg : o.guard = none) (l c : Operand) (hop : o.op = Op.makeSlice 24 l c)
    (base : Nat) (C : Int) (n : Nat) (hl : a.eval l = .int .i64 0) (hc : a.eval c = .int .i64 C) (hC : C = (n : Int)) (hn : n ≤ 17592186044416) (hb : base ≤ w.heap.size)
    (hK : ∀ w', OB w' base (.slice (some ⟨w.heap.size, 0, none⟩) 0 n) [] → Below base w w' → w.grownBy w' none → wpList Try.prog ops Q rest (a.put o.dst (.slice (some ⟨w.heap.size, 0, none⟩) 0 n)) w') :
    wpList Try.prog ops Q (o :: rest) a w := by
  obtain ⟨i0, hi, hz, h1, h2⟩ := info_parts byte_info
  refine wpList_make_own w hg l c _ hop base 5 i0 (.int .u8 0) 1 Try.underlying24 hi hz h1 .i64 .i64 C n hl hc hC (by rw [h2]; omega) (by unfold maxLen; omega) hb ?_
  intro w' ho hgr
  exact hK w' ho ((Below.refl _ _).grown hgr hb (fun k hk => by cases hk)) hgr

end Go.Proofs.Ytncjfljmnkfghaa

namespace Go.Proofs.Ytncjfljmnkfghaa
open Go.RowKit

/-- A log in the last 512 bytes of a memory of 1024. -/
def LG (w : World) (l : Nat) (x : MB) (s : MS) : Prop := PM w x 128 s.S s.T s.A ∧ Blk w l [.pointer (some ⟨x.p, 0, none⟩), .int .i64 512, .int .i64 512] ∧ ¬ x.F l
section
variable {w w' : World} {l : Nat} {x : MB} {s : MS} {F : Nat → Prop}
theorem LG.keep (h : LG w l x s) (g : Grow w w') : LG w' l x s := ⟨h.1.keep g, h.2.1.keep g, h.2.2⟩
theorem Blk.turn {g : Nat} {vs : List Value} (h : Blk w g vs) (t : Turn F w w') (hF : ¬ F g) : Blk w' g vs := ⟨Nat.lt_of_lt_of_le h.1 t.size, fun j v hv => (t.cell (p := ⟨g, j, none⟩) h.1 hF).trans (h.2 j v hv)⟩
theorem LG.turn (h : LG w l x s) (t : Turn F w w') (h1 : ∀ k, F k → ¬ x.F k) (h2 : ¬ F l) : LG w' l x s := ⟨h.1.turn t h1, h.2.1.turn t h2, h.2.2⟩
theorem LG.lenS (h : LG w l x s) : s.S.length = 1024 := h.1.lenS
end

set_option maxHeartbeats 2000000 in
theorem pl_keep {w : World} {l : Nat} {x : MB} {s : MS} (h : LG w l x s) {B : Option Addr} {m c : Nat} {bs : List UInt8} (hs : Sl w B m bs) (hB : 0 < m → ∀ p, B = some p → ¬ x.F p.block) (a : Int) :
    Calls Try.prog 53 #[.pointer (some ⟨l, 0, none⟩), .int .i64 a, .slice B m c] w fun e w' => e = .returned (.tuple #[]) ∧ LG w' l x (s.keep a bs) ∧ Turn x.F w w' := by
  obtain ⟨hP, hl, hlx⟩ := h
  have c0 := hl.c3.1
  have HL := Lib.hid hl
  have HLX := Lib.hid hlx
  have HP := Lib.hid hP
  have HS := Lib.hid hs
  have HB := Lib.hid hB
  have HM := Lib.hid hs.1
  have hmb := hs.2.1
  clear hl hP hs hB hlx
  go_enter_defers Try.func53, Try.ntmps53
  go_wp2_with fail
  refine (pm_storeU HP.out HS.out HB.out a).mono ?_
  rintro e w1 ⟨rfl, hP1, t1⟩
  have HP1 := Lib.hid hP1
  have HT1 := Lib.hid t1
  have HL1 := Lib.hid (HL.out.turn t1 HLX.out)
  have c1 := HL1.out.c3.1
  clear hP1 t1 c0
  go_wp2_with fail
  refine (pm_flushU HP1.out a (m : Int) (by omega) (by omega)).mono ?_
  rintro e w2 ⟨rfl, hP2, t2⟩
  have HP2 := Lib.hid hP2
  have HT2 := Lib.hid (HT1.out.and t2)
  have HL2 := Lib.hid (HL1.out.turn t2 HLX.out)
  clear hP2 t2 c1
  go_wp2_with fail
  refine leaves_cons (f := 36) (args := #[.pointer (some ⟨x.p, 0, none⟩)]) (by simp) (by simp [go_sem]) ?_
  refine (pm_fence_d .returning HP2.out).mono ?_
  rintro e u' w3 ⟨rfl, rfl, hP3, t3⟩
  refine ⟨_, results_none rfl _ _ _, rfl, ⟨?_, HL2.out.turn t3 HLX.out, HLX.out⟩, HT2.out.and t3⟩
  simp only [MS.keep, MS.fence, MS.flush, MS.store]
  rw [HM.out]
  exact hP3

set_option maxHeartbeats 4000000 in
theorem pl_end {w : World} {l : Nat} {x : MB} {s : MS} (h : LG w l x s) :
    Calls Try.prog 33 #[.pointer (some ⟨l, 0, none⟩)] w fun e w' => e = .returned (.int .i64 (lgE s.S : Nat)) ∧ Grow w w' := by
  obtain ⟨hP, hl, hlx⟩ := h
  have c0 := hl.c3.1
  have c1 := hl.c3.2.1
  have HL := Lib.hid hl
  have HP := Lib.hid hP
  have HSL := Lib.hid hP.lenS
  have HE := Lib.hid (lg_head (S := s.S) hP.lenS)
  clear hl hP hlx
  go_enter Try.func33, Try.ntmps33
  go_wp2_with fail
  go_region_held3 (fun w' => w'.cell? ⟨l, 0, none⟩ = some (.pointer (some ⟨x.p, 0, none⟩)) ∧ w'.cell? ⟨l, 1, none⟩ = some (.int .i64 512)) (first | exact ⟨c0, c1⟩ | exact ⟨d0, d1⟩) ((go_at_call 56; refine (pm_load (HP.out.keep ?_) 512 8 (by decide)).mono ?_; (repeat (first | exact Grow.refl _ | refine Grow.drew ?_ | refine Grow.drewN ?_ _)); rintro e w4 ⟨A4, c4, rfl, o4, g4⟩; have G4 : Grow w w4 := Grow.trans (by (repeat (first | exact Grow.refl _ | refine Grow.drew ?_ | refine Grow.drewN ?_ _))) g4; have d0 := G4.cell c0; have d1 := G4.cell c1))
  all_goals
    have c2 := G4.cell HL.out.c3.2.2
    have s4 := o4.sl
    have HG := Lib.hid G4
    clear o4 g4 G4 c0 c1 d0 d1
    go_wp2_with fail
    refine (get_s s4 (by decide) (by decide)).mono ?_
    rintro e w5 ⟨rfl, rfl⟩
    rw [HE.out]
    have hv := get_any s.S 512 8
    obtain ⟨v, hV⟩ : ∃ v, v = getN s.S 512 8 := ⟨_, rfl⟩
    rw [← hV] at hv ⊢
    have HV := Lib.hid hV
    clear hV s4
    by_cases h5 : 504 < v
    · have z1 : decide (504 < v) = true := decide_eq_true h5
      have HR := Lib.hid (show lgE s.S = 0 by rw [lgE, ← HV.out, if_pos h5])
      clear h5
      go_wp2_with fail
      go_ret
      exact ⟨ret_int (by rw [HR.out]; rfl), HG.out⟩
    · have z1 : decide (504 < v) = false := decide_eq_false h5
      have HR := Lib.hid (show (lgE s.S : Int) = v by rw [lgE, ← HV.out, if_neg h5]; omega)
      clear h5
      go_wp2_with fail
      go_ret
      exact ⟨ret_int HR.out.symm, HG.out⟩
end Go.Proofs.Ytncjfljmnkfghaa

namespace Go.Proofs.Ytncjfljmnkfghaa
open Go.RowKit

def mayLG (n a s : Int) : Bool := decide (0 ≤ a ∧ a % 64 = 0 ∧ 128 ≤ s ∧ s ≤ 65536 ∧ s % 64 = 0 ∧ a ≤ n ∧ s ≤ n - a)
theorem mayLG_iff {n a s : Int} : mayLG n a s = true ↔ 0 ≤ a ∧ a % 64 = 0 ∧ 128 ≤ s ∧ s ≤ 65536 ∧ s % 64 = 0 ∧ a ≤ n ∧ s ≤ n - a := by simp [mayLG]
theorem tm64 {a : Int} (h : 0 ≤ a) : Int.tmod a 64 = a % 64 := Int.tmod_eq_emod_of_nonneg h
theorem ne_f {a : Int} (h : a = 0) : (a != 0) = false := by rw [h]; rfl
theorem ne_t {a : Int} (h : a ≠ 0) : (a != 0) = true := by rw [bne_iff_ne]; exact h
theorem eq_f {a : Int} (h : a ≠ 0) : (a == 0) = false := by rw [beq_eq_false_iff_ne]; exact h
theorem eq_t {a : Int} (h : a = 0) : (a == 0) = true := by rw [h]; rfl

theorem pl_new_nil (a s : Int) (w : World) : Calls Try.prog 21 #[.pointer none, .int .i64 a, .int .i64 s] w fun e w' => e = .returned (.pointer none) ∧ w = w' := by
  go_enter Try.func21, Try.ntmps21
  go_wp2_with fail
  go_ret
  exact ⟨rfl, rfl⟩

set_option maxHeartbeats 2000000 in
theorem pl_new {w : World} {x : MB} {N : Nat} {S T : List UInt8} {A : List Bool} (h : PM w x N S T A) (a s : Int) :
    Calls Try.prog 21 #[.pointer (some ⟨x.p, 0, none⟩), .int .i64 a, .int .i64 s] w fun e w' => (mayLG ((N : Int) * 8) a s = false ∧ e = .returned (.pointer none) ∧ w = w') ∨ (mayLG ((N : Int) * 8) a s = true ∧ ∃ l, e = .returned (.pointer (some ⟨l, 0, none⟩)) ∧ w.heap.size ≤ l ∧ Blk w' l [.pointer (some ⟨x.p, 0, none⟩), .int .i64 a, .int .i64 s] ∧ Grow w w') := by
  obtain ⟨hN1, hN2, hN3⟩ := h.bound
  have H := Lib.hid h
  clear h
  by_cases q0 : a < 0
  · have HM := Lib.hid (show mayLG ((N : Int) * 8) a s = false by rw [Bool.eq_false_iff]; intro m; have := mayLG_iff.1 m; omega)
    have y0 : decide (a < 0) = true := decide_eq_true q0
    clear hN1 hN2 hN3 q0
    go_enter Try.func21, Try.ntmps21
    go_wp2_with fail
    go_ret
    exact .inl ⟨HM.out, rfl, rfl⟩
  have z00 : decide (a < 0) = false := decide_eq_false q0
  by_cases q1 : s < 128
  · have HM := Lib.hid (show mayLG ((N : Int) * 8) a s = false by rw [Bool.eq_false_iff]; intro m; have := mayLG_iff.1 m; omega)
    have y0 : decide (s < 128) = true := decide_eq_true q1
    clear hN1 hN2 hN3 q0 q1
    go_enter Try.func21, Try.ntmps21
    go_wp2_with fail
    go_ret
    exact .inl ⟨HM.out, rfl, rfl⟩
  have z10 : decide (s < 128) = false := decide_eq_false q1
  by_cases q2 : 65536 < s
  · have HM := Lib.hid (show mayLG ((N : Int) * 8) a s = false by rw [Bool.eq_false_iff]; intro m; have := mayLG_iff.1 m; omega)
    have y0 : decide (65536 < s) = true := decide_eq_true q2
    clear hN1 hN2 hN3 q0 q1 q2
    go_enter Try.func21, Try.ntmps21
    go_wp2_with fail
    go_ret
    exact .inl ⟨HM.out, rfl, rfl⟩
  have z20 : decide (65536 < s) = false := decide_eq_false q2
  by_cases q3 : a % 64 ≠ 0
  · have HM := Lib.hid (show mayLG ((N : Int) * 8) a s = false by rw [Bool.eq_false_iff]; intro m; have := mayLG_iff.1 m; omega)
    have y0 : (Int.tmod a 64 != 0) = true := by rw [tm64 (by omega)]; exact ne_t q3
    have y1 : (a % 64 != 0) = true := ne_t q3
    clear hN1 hN2 hN3 q0 q1 q2 q3
    go_enter Try.func21, Try.ntmps21
    go_wp2_with fail
    go_ret
    exact .inl ⟨HM.out, rfl, rfl⟩
  have z30 : (Int.tmod a 64 != 0) = false := by rw [tm64 (by omega)]; exact ne_f (Decidable.byContradiction q3)
  have z31 : (a % 64 != 0) = false := ne_f (Decidable.byContradiction q3)
  by_cases q4 : s % 64 ≠ 0
  · have HM := Lib.hid (show mayLG ((N : Int) * 8) a s = false by rw [Bool.eq_false_iff]; intro m; have := mayLG_iff.1 m; omega)
    have y0 : (Int.tmod s 64 != 0) = true := by rw [tm64 (by omega)]; exact ne_t q4
    have y1 : (s % 64 != 0) = true := ne_t q4
    clear hN1 hN2 hN3 q0 q1 q2 q3 q4
    go_enter Try.func21, Try.ntmps21
    go_wp2_with fail
    go_ret
    exact .inl ⟨HM.out, rfl, rfl⟩
  have z40 : (Int.tmod s 64 != 0) = false := by rw [tm64 (by omega)]; exact ne_f (Decidable.byContradiction q4)
  have z41 : (s % 64 != 0) = false := ne_f (Decidable.byContradiction q4)
  have g1 : 0 ≤ a := by omega
  have g2 : 128 ≤ s := by omega
  have g3 : s ≤ 65536 := by omega
  by_cases q5 : (N : Int) * 8 - s < a
  · have HM := Lib.hid (show mayLG ((N : Int) * 8) a s = false by rw [Bool.eq_false_iff]; intro m; have := mayLG_iff.1 m; omega)
    have y0 : decide ((N : Int) * 8 - s < a) = true := decide_eq_true q5
    clear hN1 q0 q1 q2 q3 q4 q5
    go_enter Try.func21, Try.ntmps21
    go_wp2_with fail
    refine (pm_size H.out).mono ?_
    rintro e w' ⟨rfl, rfl⟩
    go_wp2_with fail
    go_ret
    exact .inl ⟨HM.out, rfl, rfl⟩
  · have HM := Lib.hid (show mayLG ((N : Int) * 8) a s = true from mayLG_iff.2 ⟨by omega, by omega, by omega, by omega, by omega, by omega, by omega⟩)
    have y0 : decide ((N : Int) * 8 - s < a) = false := decide_eq_false q5
    clear hN1 q0 q1 q2 q3 q4 q5
    go_enter Try.func21, Try.ntmps21
    go_wp2_with fail
    refine (pm_size H.out).mono ?_
    rintro e w' ⟨rfl, rfl⟩
    go_wp2_with fail
    go_ret
    exact .inr ⟨HM.out, w.heap.size, rfl, Nat.le_refl _, Blk.new w _ _ _ (0, 0) rfl, (Grow.refl w).alloc _⟩

set_option maxHeartbeats 2000000 in
theorem rl_may (n a s : Int) (hn : n ≤ 10000000) (hn0 : -9223372036854775808 ≤ n) (w : World) :
    Calls Try.prog 22 #[.int .i64 n, .int .i64 a, .int .i64 s] w fun e w' => e = .returned (.bool (mayLG n a s)) ∧ w = w' := by
  by_cases q0 : a < 0
  · have HM := Lib.hid (show mayLG n a s = false by rw [Bool.eq_false_iff]; intro m; have := mayLG_iff.1 m; omega)
    have y0 : decide (0 ≤ a) = false := decide_eq_false (by omega)
    clear hn hn0 q0
    go_enter Try.func22, Try.ntmps22
    go_wp2_with fail
    go_ret
    exact ⟨by rw [HM.out]; rfl, rfl⟩
  have z00 : decide (0 ≤ a) = true := decide_eq_true (by omega)
  by_cases q1 : a % 64 ≠ 0
  · have HM := Lib.hid (show mayLG n a s = false by rw [Bool.eq_false_iff]; intro m; have := mayLG_iff.1 m; omega)
    have y0 : (Int.tmod a 64 == 0) = false := by rw [tm64 (by omega)]; exact eq_f q1
    have y1 : (a % 64 == 0) = false := eq_f q1
    clear hn hn0 q0 q1
    go_enter Try.func22, Try.ntmps22
    go_wp2_with fail
    go_ret
    exact ⟨by rw [HM.out]; rfl, rfl⟩
  have z10 : (Int.tmod a 64 == 0) = true := by rw [tm64 (by omega)]; exact eq_t (Decidable.byContradiction q1)
  have z11 : (a % 64 == 0) = true := eq_t (Decidable.byContradiction q1)
  by_cases q2 : s < 128
  · have HM := Lib.hid (show mayLG n a s = false by rw [Bool.eq_false_iff]; intro m; have := mayLG_iff.1 m; omega)
    have y0 : decide (128 ≤ s) = false := decide_eq_false (by omega)
    clear hn hn0 q0 q1 q2
    go_enter Try.func22, Try.ntmps22
    go_wp2_with fail
    go_ret
    exact ⟨by rw [HM.out]; rfl, rfl⟩
  have z20 : decide (128 ≤ s) = true := decide_eq_true (by omega)
  by_cases q3 : 65536 < s
  · have HM := Lib.hid (show mayLG n a s = false by rw [Bool.eq_false_iff]; intro m; have := mayLG_iff.1 m; omega)
    have y0 : decide (s ≤ 65536) = false := decide_eq_false (by omega)
    clear hn hn0 q0 q1 q2 q3
    go_enter Try.func22, Try.ntmps22
    go_wp2_with fail
    go_ret
    exact ⟨by rw [HM.out]; rfl, rfl⟩
  have z30 : decide (s ≤ 65536) = true := decide_eq_true (by omega)
  by_cases q4 : s % 64 ≠ 0
  · have HM := Lib.hid (show mayLG n a s = false by rw [Bool.eq_false_iff]; intro m; have := mayLG_iff.1 m; omega)
    have y0 : (Int.tmod s 64 == 0) = false := by rw [tm64 (by omega)]; exact eq_f q4
    have y1 : (s % 64 == 0) = false := eq_f q4
    clear hn hn0 q0 q1 q2 q3 q4
    go_enter Try.func22, Try.ntmps22
    go_wp2_with fail
    go_ret
    exact ⟨by rw [HM.out]; rfl, rfl⟩
  have z40 : (Int.tmod s 64 == 0) = true := by rw [tm64 (by omega)]; exact eq_t (Decidable.byContradiction q4)
  have z41 : (s % 64 == 0) = true := eq_t (Decidable.byContradiction q4)
  by_cases q5 : n < a
  · have HM := Lib.hid (show mayLG n a s = false by rw [Bool.eq_false_iff]; intro m; have := mayLG_iff.1 m; omega)
    have y0 : decide (a ≤ n) = false := decide_eq_false (by omega)
    clear hn hn0 q0 q1 q2 q3 q4 q5
    go_enter Try.func22, Try.ntmps22
    go_wp2_with fail
    go_ret
    exact ⟨by rw [HM.out]; rfl, rfl⟩
  have z50 : decide (a ≤ n) = true := decide_eq_true (by omega)
  have g1 : 0 ≤ a := by omega
  have g2 : a ≤ n := by omega
  have HM := Lib.hid (show decide (s ≤ n - a) = mayLG n a s by rw [mayLG]; congr 1; apply propext; constructor <;> intro m <;> (try refine ⟨?_, ?_, ?_, ?_, ?_, ?_, ?_⟩) <;> omega)
  clear q0 q1 q2 q3 q4 q5
  go_enter Try.func22, Try.ntmps22
  go_wp2_with fail
  go_ret
  exact ⟨by rw [← HM.out]; rfl, rfl⟩
end Go.Proofs.Ytncjfljmnkfghaa
