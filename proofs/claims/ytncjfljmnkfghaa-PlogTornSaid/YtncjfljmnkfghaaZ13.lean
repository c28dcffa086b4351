/- plog: keep, End, Clear. plog.New, and where the document has a log. plog: each. plog: Clear, Append. No statement of the seat is proved here. -/
import Derived.Test.YtncjfljmnkfghaaZ12
import Derived.Test.YtncjfljmnkfghaaZ08
import Derived.Deep.RegionWith
import Derived.Deep.RegionHeld3
namespace Go.Proofs.Ytncjfljmnkfghaa
open Go.RowKit

/-- A log in the last 512 bytes of a memory of 1024. -/
def LG (w : World) (l : Nat) (x : MB) (s : MS) : Prop := PM w x 128 s.S s.T s.A ∧ Blk w l [.pointer (some ⟨x.p, 0, none⟩), .int .i64 512, .int .i64 512] ∧ ¬ x.F l
section
variable {w w' : World} {l : Nat} {x : MB} {s : MS} {F : Nat → Prop}
theorem LG.keep (h : LG w l x s) (g : Grow w w') : LG w' l x s := ⟨h.1.keep g, h.2.1.keep g, h.2.2⟩
theorem Blk.turn {g : Nat} {vs : List Value} (h : Blk w g vs) (t : Turn F w w') (hF : ¬ F g) : Blk w' g vs := ⟨Nat.lt_of_lt_of_le h.1 t.size, fun j v hv => (t.cell (p := ⟨g, j, none⟩) h.1 hF).trans (h.2 j v hv)⟩
theorem LG.turn (h : LG w l x s) (t : Turn F w w') (h1 : ∀ k, F k → ¬ x.F k) (h2 : ¬ F l) : LG w' l x s := ⟨h.1.turn t h1, h.2.1.turn t h2, h.2.2⟩
theorem LG.lenS (h : LG w l x s) : s.S.length = 1024 := h.1.lenS
end

set_option maxHeartbeats 2000000 in
theorem pl_keep {w : World} {l : Nat} {x : MB} {s : MS} (h : LG w l x s) {B : Option Addr} {m c : Nat} {bs : List UInt8} (hs : Sl w B m bs) (hB : 0 < m → ∀ p, B = some p → ¬ x.F p.block) (a : Int) :
    Calls Try.prog 53 #[.pointer (some ⟨l, 0, none⟩), .int .i64 a, .slice B m c] w fun e w' => e = .returned (.tuple #[]) ∧ LG w' l x (s.keep a bs) ∧ Turn x.F w w' := by
  obtain ⟨hP, hl, hlx⟩ := h
  have c0 := hl.c3.1
  have HL := Lib.hid hl
  have HLX := Lib.hid hlx
  have HP := Lib.hid hP
  have HS := Lib.hid hs
  have HB := Lib.hid hB
  have HM := Lib.hid hs.1
  have hmb := hs.2.1
  clear hl hP hs hB hlx
  go_enter_defers Try.func53, Try.ntmps53
  go_wp2_with fail
  refine (pm_storeU HP.out HS.out HB.out a).mono ?_
  rintro e w1 ⟨rfl, hP1, t1⟩
  have HP1 := Lib.hid hP1
  have HT1 := Lib.hid t1
  have HL1 := Lib.hid (HL.out.turn t1 HLX.out)
  have c1 := HL1.out.c3.1
  clear hP1 t1 c0
  go_wp2_with fail
  refine (pm_flushU HP1.out a (m : Int) (by omega) (by omega)).mono ?_
  rintro e w2 ⟨rfl, hP2, t2⟩
  have HP2 := Lib.hid hP2
  have HT2 := Lib.hid (HT1.out.and t2)
  have HL2 := Lib.hid (HL1.out.turn t2 HLX.out)
  clear hP2 t2 c1
  go_wp2_with fail
  refine leaves_cons (f := 36) (args := #[.pointer (some ⟨x.p, 0, none⟩)]) (by simp) (by simp [go_sem]) ?_
  refine (pm_fence_d .returning HP2.out).mono ?_
  rintro e u' w3 ⟨rfl, rfl, hP3, t3⟩
  refine ⟨_, results_none rfl _ _ _, rfl, ⟨?_, HL2.out.turn t3 HLX.out, HLX.out⟩, HT2.out.and t3⟩
  simp only [MS.keep, MS.fence, MS.flush, MS.store]
  rw [HM.out]
  exact hP3

set_option maxHeartbeats 4000000 in
theorem pl_end {w : World} {l : Nat} {x : MB} {s : MS} (h : LG w l x s) :
    Calls Try.prog 33 #[.pointer (some ⟨l, 0, none⟩)] w fun e w' => e = .returned (.int .i64 (lgE s.S : Nat)) ∧ Grow w w' := by
  obtain ⟨hP, hl, hlx⟩ := h
  have c0 := hl.c3.1
  have c1 := hl.c3.2.1
  have HL := Lib.hid hl
  have HP := Lib.hid hP
  have HSL := Lib.hid hP.lenS
  have HE := Lib.hid (lg_head (S := s.S) hP.lenS)
  clear hl hP hlx
  go_enter Try.func33, Try.ntmps33
  go_wp2_with fail
  go_region_held3 (fun w' => w'.cell? ⟨l, 0, none⟩ = some (.pointer (some ⟨x.p, 0, none⟩)) ∧ w'.cell? ⟨l, 1, none⟩ = some (.int .i64 512)) (first | exact ⟨c0, c1⟩ | exact ⟨d0, d1⟩) ((go_at_call 56; refine (pm_load (HP.out.keep ?_) 512 8 (by decide)).mono ?_; (repeat (first | exact Grow.refl _ | refine Grow.drew ?_ | refine Grow.drewN ?_ _)); rintro e w4 ⟨A4, c4, rfl, o4, g4⟩; have G4 : Grow w w4 := Grow.trans (by (repeat (first | exact Grow.refl _ | refine Grow.drew ?_ | refine Grow.drewN ?_ _))) g4; have d0 := G4.cell c0; have d1 := G4.cell c1))
  all_goals
    have c2 := G4.cell HL.out.c3.2.2
    have s4 := o4.sl
    have HG := Lib.hid G4
    clear o4 g4 G4 c0 c1 d0 d1
    go_wp2_with fail
    refine (get_s s4 (by decide) (by decide)).mono ?_
    rintro e w5 ⟨rfl, rfl⟩
    rw [HE.out]
    have hv := get_any s.S 512 8
    obtain ⟨v, hV⟩ : ∃ v, v = getN s.S 512 8 := ⟨_, rfl⟩
    rw [← hV] at hv ⊢
    have HV := Lib.hid hV
    clear hV s4
    by_cases h5 : 504 < v
    · have z1 : decide (504 < v) = true := decide_eq_true h5
      have HR := Lib.hid (show lgE s.S = 0 by rw [lgE, ← HV.out, if_pos h5])
      clear h5
      go_wp2_with fail
      go_ret
      exact ⟨ret_int (by rw [HR.out]; rfl), HG.out⟩
    · have z1 : decide (504 < v) = false := decide_eq_false h5
      have HR := Lib.hid (show (lgE s.S : Int) = v by rw [lgE, ← HV.out, if_neg h5]; omega)
      clear h5
      go_wp2_with fail
      go_ret
      exact ⟨ret_int HR.out.symm, HG.out⟩
end Go.Proofs.Ytncjfljmnkfghaa

namespace Go.Proofs.Ytncjfljmnkfghaa
open Go.RowKit

def mayLG (n a s : Int) : Bool := decide (0 ≤ a ∧ a % 64 = 0 ∧ 128 ≤ s ∧ s ≤ 65536 ∧ s % 64 = 0 ∧ a ≤ n ∧ s ≤ n - a)
theorem mayLG_iff {n a s : Int} : mayLG n a s = true ↔ 0 ≤ a ∧ a % 64 = 0 ∧ 128 ≤ s ∧ s ≤ 65536 ∧ s % 64 = 0 ∧ a ≤ n ∧ s ≤ n - a := by simp [mayLG]
theorem tm64 {a : Int} (h : 0 ≤ a) : Int.tmod a 64 = a % 64 := Int.tmod_eq_emod_of_nonneg h
theorem ne_f {a : Int} (h : a = 0) : (a != 0) = false := by rw [h]; rfl
theorem ne_t {a : Int} (h : a ≠ 0) : (a != 0) = true := by rw [bne_iff_ne]; exact h
theorem eq_f {a : Int} (h : a ≠ 0) : (a == 0) = false := by rw [beq_eq_false_iff_ne]; exact h
theorem eq_t {a : Int} (h : a = 0) : (a == 0) = true := by rw [h]; rfl

theorem pl_new_nil (a s : Int) (w : World) : Calls Try.prog 21 #[.pointer none, .int .i64 a, .int .i64 s] w fun e w' => e = .returned (.pointer none) ∧ w = w' := by
  go_enter Try.func21, Try.ntmps21
  go_wp2_with fail
  go_ret
  exact ⟨rfl, rfl⟩

set_option maxHeartbeats 2000000 in
theorem pl_new {w : World} {x : MB} {N : Nat} {S T : List UInt8} {A : List Bool} (h : PM w x N S T A) (a s : Int) :
    Calls Try.prog 21 #[.pointer (some ⟨x.p, 0, none⟩), .int .i64 a, .int .i64 s] w fun e w' => (mayLG ((N : Int) * 8) a s = false ∧ e = .returned (.pointer none) ∧ w = w') ∨ (mayLG ((N : Int) * 8) a s = true ∧ ∃ l, e = .returned (.pointer (some ⟨l, 0, none⟩)) ∧ w.heap.size ≤ l ∧ Blk w' l [.pointer (some ⟨x.p, 0, none⟩), .int .i64 a, .int .i64 s] ∧ Grow w w') := by
  obtain ⟨hN1, hN2, hN3⟩ := h.bound
  have H := Lib.hid h
  clear h
  by_cases q0 : a < 0
  · have HM := Lib.hid (show mayLG ((N : Int) * 8) a s = false by rw [Bool.eq_false_iff]; intro m; have := mayLG_iff.1 m; omega)
    have y0 : decide (a < 0) = true := decide_eq_true q0
    clear hN1 hN2 hN3 q0
    go_enter Try.func21, Try.ntmps21
    go_wp2_with fail
    go_ret
    exact .inl ⟨HM.out, rfl, rfl⟩
  have z00 : decide (a < 0) = false := decide_eq_false q0
  by_cases q1 : s < 128
  · have HM := Lib.hid (show mayLG ((N : Int) * 8) a s = false by rw [Bool.eq_false_iff]; intro m; have := mayLG_iff.1 m; omega)
    have y0 : decide (s < 128) = true := decide_eq_true q1
    clear hN1 hN2 hN3 q0 q1
    go_enter Try.func21, Try.ntmps21
    go_wp2_with fail
    go_ret
    exact .inl ⟨HM.out, rfl, rfl⟩
  have z10 : decide (s < 128) = false := decide_eq_false q1
  by_cases q2 : 65536 < s
  · have HM := Lib.hid (show mayLG ((N : Int) * 8) a s = false by rw [Bool.eq_false_iff]; intro m; have := mayLG_iff.1 m; omega)
    have y0 : decide (65536 < s) = true := decide_eq_true q2
    clear hN1 hN2 hN3 q0 q1 q2
    go_enter Try.func21, Try.ntmps21
    go_wp2_with fail
    go_ret
    exact .inl ⟨HM.out, rfl, rfl⟩
  have z20 : decide (65536 < s) = false := decide_eq_false q2
  by_cases q3 : a % 64 ≠ 0
  · have HM := Lib.hid (show mayLG ((N : Int) * 8) a s = false by rw [Bool.eq_false_iff]; intro m; have := mayLG_iff.1 m; omega)
    have y0 : (Int.tmod a 64 != 0) = true := by rw [tm64 (by omega)]; exact ne_t q3
    have y1 : (a % 64 != 0) = true := ne_t q3
    clear hN1 hN2 hN3 q0 q1 q2 q3
    go_enter Try.func21, Try.ntmps21
    go_wp2_with fail
    go_ret
    exact .inl ⟨HM.out, rfl, rfl⟩
  have z30 : (Int.tmod a 64 != 0) = false := by rw [tm64 (by omega)]; exact ne_f (Decidable.byContradiction q3)
  have z31 : (a % 64 != 0) = false := ne_f (Decidable.byContradiction q3)
  by_cases q4 : s % 64 ≠ 0
  · have HM := Lib.hid (show mayLG ((N : Int) * 8) a s = false by rw [Bool.eq_false_iff]; intro m; have := mayLG_iff.1 m; omega)
    have y0 : (Int.tmod s 64 != 0) = true := by rw [tm64 (by omega)]; exact ne_t q4
    have y1 : (s % 64 != 0) = true := ne_t q4
    clear hN1 hN2 hN3 q0 q1 q2 q3 q4
    go_enter Try.func21, Try.ntmps21
    go_wp2_with fail
    go_ret
    exact .inl ⟨HM.out, rfl, rfl⟩
  have z40 : (Int.tmod s 64 != 0) = false := by rw [tm64 (by omega)]; exact ne_f (Decidable.byContradiction q4)
  have z41 : (s % 64 != 0) = false := ne_f (Decidable.byContradiction q4)
  have g1 : 0 ≤ a := by omega
  have g2 : 128 ≤ s := by omega
  have g3 : s ≤ 65536 := by omega
  by_cases q5 : (N : Int) * 8 - s < a
  · have HM := Lib.hid (show mayLG ((N : Int) * 8) a s = false by rw [Bool.eq_false_iff]; intro m; have := mayLG_iff.1 m; omega)
    have y0 : decide ((N : Int) * 8 - s < a) = true := decide_eq_true q5
    clear hN1 q0 q1 q2 q3 q4 q5
    go_enter Try.func21, Try.ntmps21
    go_wp2_with fail
    refine (pm_size H.out).mono ?_
    rintro e w' ⟨rfl, rfl⟩
    go_wp2_with fail
    go_ret
    exact .inl ⟨HM.out, rfl, rfl⟩
  · have HM := Lib.hid (show mayLG ((N : Int) * 8) a s = true from mayLG_iff.2 ⟨by omega, by omega, by omega, by omega, by omega, by omega, by omega⟩)
    have y0 : decide ((N : Int) * 8 - s < a) = false := decide_eq_false q5
    clear hN1 q0 q1 q2 q3 q4 q5
    go_enter Try.func21, Try.ntmps21
    go_wp2_with fail
    refine (pm_size H.out).mono ?_
    rintro e w' ⟨rfl, rfl⟩
    go_wp2_with fail
    go_ret
    exact .inr ⟨HM.out, w.heap.size, rfl, Nat.le_refl _, Blk.new w _ _ _ (0, 0) rfl, (Grow.refl w).alloc _⟩

set_option maxHeartbeats 2000000 in
theorem rl_may (n a s : Int) (hn : n ≤ 10000000) (hn0 : -9223372036854775808 ≤ n) (w : World) :
    Calls Try.prog 22 #[.int .i64 n, .int .i64 a, .int .i64 s] w fun e w' => e = .returned (.bool (mayLG n a s)) ∧ w = w' := by
  by_cases q0 : a < 0
  · have HM := Lib.hid (show mayLG n a s = false by rw [Bool.eq_false_iff]; intro m; have := mayLG_iff.1 m; omega)
    have y0 : decide (0 ≤ a) = false := decide_eq_false (by omega)
    clear hn hn0 q0
    go_enter Try.func22, Try.ntmps22
    go_wp2_with fail
    go_ret
    exact ⟨by rw [HM.out]; rfl, rfl⟩
  have z00 : decide (0 ≤ a) = true := decide_eq_true (by omega)
  by_cases q1 : a % 64 ≠ 0
  · have HM := Lib.hid (show mayLG n a s = false by rw [Bool.eq_false_iff]; intro m; have := mayLG_iff.1 m; omega)
    have y0 : (Int.tmod a 64 == 0) = false := by rw [tm64 (by omega)]; exact eq_f q1
    have y1 : (a % 64 == 0) = false := eq_f q1
    clear hn hn0 q0 q1
    go_enter Try.func22, Try.ntmps22
    go_wp2_with fail
    go_ret
    exact ⟨by rw [HM.out]; rfl, rfl⟩
  have z10 : (Int.tmod a 64 == 0) = true := by rw [tm64 (by omega)]; exact eq_t (Decidable.byContradiction q1)
  have z11 : (a % 64 == 0) = true := eq_t (Decidable.byContradiction q1)
  by_cases q2 : s < 128
  · have HM := Lib.hid (show mayLG n a s = false by rw [Bool.eq_false_iff]; intro m; have := mayLG_iff.1 m; omega)
    have y0 : decide (128 ≤ s) = false := decide_eq_false (by omega)
    clear hn hn0 q0 q1 q2
    go_enter Try.func22, Try.ntmps22
    go_wp2_with fail
    go_ret
    exact ⟨by rw [HM.out]; rfl, rfl⟩
  have z20 : decide (128 ≤ s) = true := decide_eq_true (by omega)
  by_cases q3 : 65536 < s
  · have HM := Lib.hid (show mayLG n a s = false by rw [Bool.eq_false_iff]; intro m; have := mayLG_iff.1 m; omega)
    have y0 : decide (s ≤ 65536) = false := decide_eq_false (by omega)
    clear hn hn0 q0 q1 q2 q3
    go_enter Try.func22, Try.ntmps22
    go_wp2_with fail
    go_ret
    exact ⟨by rw [HM.out]; rfl, rfl⟩
  have z30 : decide (s ≤ 65536) = true := decide_eq_true (by omega)
  by_cases q4 : s % 64 ≠ 0
  · have HM := Lib.hid (show mayLG n a s = false by rw [Bool.eq_false_iff]; intro m; have := mayLG_iff.1 m; omega)
    have y0 : (Int.tmod s 64 == 0) = false := by rw [tm64 (by omega)]; exact eq_f q4
    have y1 : (s % 64 == 0) = false := eq_f q4
    clear hn hn0 q0 q1 q2 q3 q4
    go_enter Try.func22, Try.ntmps22
    go_wp2_with fail
    go_ret
    exact ⟨by rw [HM.out]; rfl, rfl⟩
  have z40 : (Int.tmod s 64 == 0) = true := by rw [tm64 (by omega)]; exact eq_t (Decidable.byContradiction q4)
  have z41 : (s % 64 == 0) = true := eq_t (Decidable.byContradiction q4)
  by_cases q5 : n < a
  · have HM := Lib.hid (show mayLG n a s = false by rw [Bool.eq_false_iff]; intro m; have := mayLG_iff.1 m; omega)
    have y0 : decide (a ≤ n) = false := decide_eq_false (by omega)
    clear hn hn0 q0 q1 q2 q3 q4 q5
    go_enter Try.func22, Try.ntmps22
    go_wp2_with fail
    go_ret
    exact ⟨by rw [HM.out]; rfl, rfl⟩
  have z50 : decide (a ≤ n) = true := decide_eq_true (by omega)
  have g1 : 0 ≤ a := by omega
  have g2 : a ≤ n := by omega
  have HM := Lib.hid (show decide (s ≤ n - a) = mayLG n a s by rw [mayLG]; congr 1; apply propext; constructor <;> intro m <;> (try refine ⟨?_, ?_, ?_, ?_, ?_, ?_, ?_⟩) <;> omega)
  clear q0 q1 q2 q3 q4 q5
  go_enter Try.func22, Try.ntmps22
  go_wp2_with fail
  go_ret
  exact ⟨by rw [← HM.out]; rfl, rfl⟩
end Go.Proofs.Ytncjfljmnkfghaa

namespace Go.Proofs.Ytncjfljmnkfghaa
open Go.RowKit

/-- The records are read up to k bytes, i of them. -/
def EachLink (bs : List UInt8) (k i : Nat) : Prop := rcU bs = k + rcU (bs.drop k) ∧ ∃ R, R.length = i ∧ rcL bs = R ++ rcL (bs.drop k)
theorem EachLink.start (bs : List UInt8) : EachLink bs 0 0 := ⟨by simp, [], rfl, by simp⟩
theorem EachLink.step {bs : List UInt8} {k i : Nat} (h : EachLink bs k i) (hd : dpE (bs.drop k) = 0) : EachLink bs (k + dpU (bs.drop k)) (i + 1) ∧ (rcL bs)[i]? = some (dpL (bs.drop k)) := by
  obtain ⟨h1, R, h2, h3⟩ := h
  rw [rcU_go hd, List.drop_drop] at h1
  rw [rcL_go hd, List.drop_drop] at h3
  refine ⟨⟨by omega, R ++ [dpL (bs.drop k)], by simp [h2], by rw [h3]; simp⟩, ?_⟩
  rw [h3, List.getElem?_append_right (by omega), h2, Nat.sub_self]; rfl
theorem EachLink.done {bs : List UInt8} {k i : Nat} (h : EachLink bs k i) (hd : dpE (bs.drop k) ≠ 0) : rcU bs = k ∧ (rcL bs).length = i := by
  obtain ⟨h1, R, h2, h3⟩ := h
  rw [rcU_end hd] at h1
  rw [rcL_end hd, List.append_nil] at h3
  exact ⟨by omega, by rw [h3]; exact h2⟩

def EachInv (w wr : World) (bs : List UInt8) (B : Nat) (J : Nat → Nat → World → Prop) (tb tu : Value) : Prop :=
  ∃ (k i n c : Nat) (A : Option Addr), tb = .slice A n c ∧ tu = .int .i64 (k : Int) ∧ k ≤ bs.length ∧ n = bs.length - k ∧ n ≤ c ∧ Sl wr A n (bs.drop k) ∧ (0 < n → ∀ p, A = some p → w.heap.size ≤ p.block ∧ p.block < B) ∧ EachLink bs k i ∧ J B i wr ∧ B ≤ wr.heap.size

theorem Own.atb {w : World} {base n c k : Nat} {A : Option Addr} {bs : List UInt8} (h : Own w base A n c bs) (hk : ∃ p, A = some p ∧ p.block = k) : base ≤ k ∧ k < w.heap.size := by
  obtain ⟨p, rfl, rfl⟩ := hk
  rcases h.2.2.2 with ⟨q, _⟩ | ⟨g, cap, cur, hv, hb, hg, _⟩
  · cases q
  · injection hv with e1
    injection e1 with e1
    subst e1
    exact ⟨hb, (Array.getElem?_eq_some_iff.1 hg).1⟩
theorem wrap_k {k d : Nat} (h : k + d ≤ 2000) : wrap64 ((k : Int) + (d : Int)) = ((k + d : Nat) : Int) := by
  rw [IntWalk.wrap64_in _ (by omega)]; simp

/-- A call of this function enters it. -/
def Enters (f : FuncId) : Prop := ∀ (args : Array Value) (w : World), (callFunc f args).run Try.prog w = .ok (.enter f args) w
theorem enters {f : FuncId} {fn : Func} {c : Code} (hf : Try.prog.funcs[f]? = some fn) (hn : (fn.name == "runtime.NumGoroutine") = false) (hb : fn.body = some c) : Enters f := by
  intro args w
  have h1 : ¬ fn.name = "runtime.NumGoroutine" := by simpa using hn
  simp [callFunc, hf, h1, hb]

set_option maxHeartbeats 8000000 in
set_option maxRecDepth 8000 in
theorem pl_each {w : World} {l : Nat} {x : MB} {s : MS} (h : LG w l x s) (K : FuncId) (cap : Array Value) (hK : Enters K) (J : Nat → Nat → World → Prop)
    (h0 : ∀ u, Grow w u → J u.heap.size 0 u) (hg : ∀ B i u u', J B i u → Grow u u' → J B i u')
    (hs : ∀ B i u0 u v L, J B i u0 → Grow u0 u → w.heap.size ≤ B → B ≤ u0.heap.size → (lgL s.S)[i]? = some L → OP u u0.heap.size v L →
      Calls Try.prog K (#[v] ++ cap) u fun e u' => e = .returned (.tuple #[]) ∧ J B (i + 1) u' ∧ Turn (fun k => k < w.heap.size ∨ B ≤ k) u u') :
    Calls Try.prog 51 #[.pointer (some ⟨l, 0, none⟩), .func (.func K) #[] cap] w fun e w' => e = .returned (.int .i64 (lgU s.S : Nat)) ∧ ∃ B, w.heap.size ≤ B ∧ B ≤ w'.heap.size ∧ J B (lgL s.S).length w' := by
  unfold Enters at hK
  obtain ⟨hP, hl, hlx⟩ := id h
  have c0 := hl.c3.1
  have c1 := hl.c3.2.1
  have HLG := Lib.hid h
  have HL := Lib.hid hl
  have HP := Lib.hid hP
  have HSL := Lib.hid hP.lenS
  have HLE := Lib.hid (lgE_le s.S)
  have HBL := Lib.hid (lgB_length (S := s.S) hP.lenS)
  obtain ⟨n0, hn0⟩ : ∃ n0, n0 = lgE s.S := ⟨_, rfl⟩
  rw [← hn0] at HLE HBL
  have HN0 := Lib.hid hn0
  have hn504 := HLE.out
  clear h hl hP hlx hn0
  go_enter Try.func51, Try.ntmps51
  go_wp2_with fail
  go_region_held3 (fun w' => w'.cell? ⟨l, 0, none⟩ = some (.pointer (some ⟨x.p, 0, none⟩)) ∧ w'.cell? ⟨l, 1, none⟩ = some (.int .i64 512)) (first | exact ⟨c0, c1⟩ | exact ⟨d0, d1⟩ | exact ⟨f0, f1⟩) ((first
    | (go_at_call 33; refine (pl_end (HLG.out.keep ?_)).mono ?_; (repeat (first | exact Grow.refl _ | refine Grow.drew ?_ | refine Grow.drewN ?_ _)); rintro e w3 ⟨rfl, g3⟩; rw [← HN0.out]; have G3 : Grow w w3 := Grow.trans (by (repeat (first | exact Grow.refl _ | refine Grow.drew ?_ | refine Grow.drewN ?_ _))) g3; have d0 := G3.cell c0; have d1 := G3.cell c1)
    | (go_at_call 56; refine (pm_load (HP.out.keep (G3.trans ?_)) 520 n0 (by omega)).mono ?_; (repeat (first | exact Grow.refl _ | refine Grow.drew ?_ | refine Grow.drewN ?_ _)); rintro e w4 ⟨A4, c4, rfl, o4, g4⟩; have G4 : Grow w w4 := (G3.trans (by (repeat (first | exact Grow.refl _ | refine Grow.drew ?_ | refine Grow.drewN ?_ _)))).trans g4; have f0 := G4.cell c0; have f1 := G4.cell c1)))
  all_goals
    have HG4 := Lib.hid G4
    obtain ⟨B, hB⟩ : ∃ B, B = w4.heap.size := ⟨_, rfl⟩
    obtain ⟨bs, hbs⟩ : ∃ bs, bs = lgB s.S := ⟨_, rfl⟩
    have hbe : (s.S.drop 520).take n0 = bs := by rw [hbs, lgB, ← HN0.out]
    have HBS := Lib.hid hbs
    have HI : EachInv w w4 bs B J (.slice A4 n0 c4) (.int .i64 0) := by
      refine ⟨0, 0, n0, c4, A4, rfl, rfl, Nat.zero_le _, by rw [hbs, HBL.out]; rfl, o4.cap, ?_, fun h0 p hp => ?_, EachLink.start _, by rw [hB]; exact h0 _ G4, by omega⟩
      · have := o4.sl
        rw [hbe] at this
        exact this
      · obtain ⟨q1, q2⟩ := (o4.atb ⟨p, hp, rfl⟩)
        have q3 := G3.size
        have q4 : ∀ u : World, u.drew.heap.size = u.heap.size := fun _ => rfl
        have q5 : ∀ (u : World) k, (u.drewN k).heap.size = u.heap.size := fun u k => rfl
        exact ⟨by omega, by omega⟩
    have HI0 := Lib.hid HI
    have HBW := Lib.hid (show w.heap.size ≤ B by rw [hB]; exact G4.size)
    have HLB := Lib.hid (show bs.length = n0 by rw [hbs]; exact HBL.out)
    clear HI hbe hbs hB G3 g3 G4 g4 o4 c0 c1 d0 d1 f0 f1
    go_wp2_with fail
    go_loopw [5, 7] (fun tb tu wr => EachInv w wr bs B J tb tu) (fun tb _ _ => lenV tb)
    case atStart => exact HI0.out
    case round =>
      obtain ⟨k, i, n, c, A, rfl, rfl, hk, hn, hc, hsl, hA, hlk, hJ, hBZ⟩ := hrel
      have HSL2 := Lib.hid hsl
      have HA := Lib.hid hA
      have HLK := Lib.hid hlk
      have HJ := Lib.hid hJ
      have HBZ := Lib.hid hBZ
      have HN := Lib.hid hn
      have hk504 : k ≤ 504 := by have := HLB.out; omega
      have hnk : n + k ≤ 504 := by have := HLB.out; omega
      clear hk hn hsl hA hlk hJ hBZ HI0
      by_cases hpos : 0 < n
      · have z1 : decide (0 < n) = true := decide_eq_true hpos
        have z2 : decide ((0 : Int) < (n : Int)) = true := decide_eq_true (by omega)
        go_wp2_with fail
        refine (pl_decode HSL2.out hc).mono ?_
        rintro e w5 ⟨v, rfl, hop, g5⟩
        obtain ⟨E, hE⟩ : ∃ E, E = dpE (bs.drop k) := ⟨_, rfl⟩
        obtain ⟨D, hD⟩ : ∃ D, D = dpU (bs.drop k) := ⟨_, rfl⟩
        rw [← hE, ← hD]
        have HE := Lib.hid hE
        have HD := Lib.hid hD
        have HG5 := Lib.hid g5
        have HOP := Lib.hid hop
        clear hE hD g5 hop
        by_cases h0 : E = 0
        · have h0' : (E != 0) = false := by rw [bne_eq_false_iff_eq]; exact h0
          have hdz : dpE (bs.drop k) = 0 := by rw [← HE.out]; exact h0
          have hst := HLK.out.step hdz
          have hup := dpU_pos hdz
          rw [← HD.out] at hst hup
          have HST := Lib.hid hst.1
          have HNTH := Lib.hid hst.2
          have hD1 : 8 ≤ D := hup.1
          have hD2 : D ≤ n := by have := hup.2.1; rw [List.length_drop] at this; have := HN.out; omega
          have HSW := Lib.hid (HSL2.out.keep HG5.out)
          clear hst hup hdz h0
          go_wp2_with fail
          refine (hs B i wr w5 v _ HJ.out HG5.out HBW.out HBZ.out (by rw [lgL, ← HBS.out]; exact HNTH.out) HOP.out).mono ?_
          rintro e w6 ⟨rfl, hJ6, t6⟩
          have HJ6 := Lib.hid hJ6
          have HS6 := Lib.hid (HSW.out.turn' t6 fun h0 p hp q => by have := HA.out h0 p hp; omega)
          have HB6 := Lib.hid (show B ≤ w6.heap.size from Nat.le_trans HBZ.out (Nat.le_trans HG5.out.size t6.size))
          have e5 := wrap_k (k := k) (d := D) (by omega)
          have i1 : D ≤ c := by omega
          have hsd := HS6.out.drop (k := D) (c := c) hD2 hc
          rw [List.drop_drop] at hsd
          have HMS := Lib.hid (show lenV (.slice none (n - D) 0) < lenV (.slice none n 0) by simp only [lenV]; omega)
          clear hJ6 t6
          by_cases hca : c = D
          · rw [if_pos hca] at hsd
            obtain rfl : n = D := by omega
            subst hca
            have X : EachInv w w6 bs B J (.slice A 0 0) (.int .i64 ((k + c : Nat) : Int)) :=
              ⟨k + c, i + 1, 0, 0, A, rfl, rfl, by have := HLB.out; have := HN.out; omega, by have := HN.out; have := HLB.out; omega, by omega, by simpa using hsd, fun q => by omega, HST.out, HJ6.out, HB6.out⟩
            have HX := Lib.hid X
            clear X hsd
            go_wp2_with fail
            go_roundw
            case rel => (try rw [e5]); first | exact HX.out | ((repeat apply Exists.intro); exact HX.out) | ((repeat apply Exists.intro); refine ⟨HX.out, ?_⟩; rfl)
            case measure => simp [lenV]; omega
          · rw [if_neg hca] at hsd
            obtain ⟨g, o, rfl, -, -⟩ := HSL2.out.all (by omega)
            rw [show (some (⟨g, o, none⟩ : Addr)).map (·.add D) = some ⟨g, o + D, none⟩ by simp [Addr.add_lit]] at hsd
            have X : EachInv w w6 bs B J (.slice (some ⟨g, o + D, none⟩) (n - D) (c - D)) (.int .i64 ((k + D : Nat) : Int)) :=
              ⟨k + D, i + 1, n - D, c - D, _, rfl, rfl, by have := HLB.out; have := HN.out; omega, by have := HN.out; omega, by omega, hsd, fun q p hp => by injection hp with hp; subst hp; exact HA.out (by omega) ⟨g, o, none⟩ rfl, HST.out, HJ6.out, HB6.out⟩
            have HX := Lib.hid X
            clear X hsd
            go_wp2_with fail
            go_roundw
            case rel => (try rw [e5]); first | exact HX.out | ((repeat apply Exists.intro); exact HX.out) | ((repeat apply Exists.intro); refine ⟨HX.out, ?_⟩; rfl)
            case measure => simp only [lenV]; omega
        · have h0' : (E != 0) = true := by rw [bne_iff_ne]; exact h0
          have hdn := HLK.out.done (by rw [← HE.out]; exact h0)
          have HDN := Lib.hid hdn
          clear hdn h0
          go_wp2_with fail
          go_ret
          exact ⟨ret_int (by rw [lgU, ← HBS.out, HDN.out.1]), B, HBW.out, Nat.le_trans HBZ.out HG5.out.size, by rw [lgL, ← HBS.out, HDN.out.2]; exact hg _ _ _ _ HJ.out HG5.out⟩
      · obtain rfl : n = 0 := by omega
        have hdn := HLK.out.done (by rw [List.length_eq_zero_iff.1 (show (bs.drop k).length = 0 by rw [List.length_drop]; have := HN.out; omega), dpE_nil]; simp)
        have HDN := Lib.hid hdn
        clear hdn hpos
        go_wp2_with fail
        go_ret
        exact ⟨ret_int (by rw [lgU, ← HBS.out, HDN.out.1]), B, HBW.out, HBZ.out, by rw [lgL, ← HBS.out, HDN.out.2]; exact HJ.out⟩
end Go.Proofs.Ytncjfljmnkfghaa

namespace Go.Proofs.Ytncjfljmnkfghaa
open Go.RowKit

theorem Own.out {w : World} {base n c : Nat} {A : Option Addr} {bs : List UInt8} {F : Nat → Prop} (h : Own w base A n c bs) (hF : ∀ k, F k → k < base) : 0 < n → ∀ p, A = some p → ¬ F p.block := by
  intro h0 p hp q
  obtain ⟨g, e, h1, h2⟩ := h.row h0
  rw [e] at hp
  injection hp with hp
  subst hp
  have q' : F g := q
  have := hF g q'
  omega

def zero8 : List UInt8 := List.replicate 8 0
def zc8 : Array Value := (bvs zero8).toArray
theorem make8 (w : World) : (Instr.makeSlice 24 (.int .i64 8) (.int .i64 8)).run Try.prog w = .ok (.slice (some ⟨w.heap.size, 0, none⟩) 8 8) (w.alloc (.cells zc8 5)) := by kernel_rfl
theorem Sl.at8 (w : World) (g : Nat) (t : TypeId) (hg : g = w.heap.size) : Sl (w.alloc (.cells zc8 t)) (some ⟨g, 0, none⟩) 8 (List.replicate 8 0) := by
  subst hg
  exact Sl.lit w t zc8 zero8 8 (by simp [zero8]) rfl (by omega)
theorem pl_wipe_at {w wz : World} {l : Nat} {x : MB} {s : MS} (h : LG w l x s) (g : Grow w wz) (k c : Nat) (hk : w.heap.size ≤ k) (hs : Sl wz (some ⟨k, 0, none⟩) 8 (List.replicate 8 0)) :
    Calls Try.prog 53 #[.pointer (some ⟨l, 0, none⟩), .int .i64 512, .slice (some ⟨k, 0, none⟩) 8 c] wz fun e w' => e = .returned (.tuple #[]) ∧ LG w' l x s.wipe ∧ Turn x.F w w' := by
  refine (pl_keep (h.keep g) hs (fun _ p hp q => ?_) 512).mono ?_
  · injection hp with hp
    subst hp
    have q' : x.F k := q
    have := h.1.lt k q'
    omega
  rintro e w' ⟨rfl, h5, t5⟩
  exact ⟨rfl, h5, (Turn.grow g _).and t5⟩

set_option maxHeartbeats 2000000 in
set_option maxRecDepth 4000 in
theorem pl_clear {w : World} {l : Nat} {x : MB} {s : MS} (h : LG w l x s) :
    Calls Try.prog 63 #[.pointer (some ⟨l, 0, none⟩)] w fun e w' => e = .returned (.tuple #[]) ∧ LG w' l x s.wipe ∧ Turn x.F w w' := by
  have H := Lib.hid h
  have c1 := h.2.1.c3.2.1
  have c2 : (w.alloc (.cells zc8 5)).cell? ⟨l, 1, none⟩ = some (.int .i64 512) := cell_alloc c1
  have c3 : (w.drew.alloc (.cells zc8 5)).cell? ⟨l, 1, none⟩ = some (.int .i64 512) := cell_alloc c1
  have hmk := make8
  clear h
  go_enter Try.func63, Try.ntmps63
  go_wp2_with fail
  go_region_with (go_at_call 53; refine (pl_wipe_at H.out ?_ _ _ ?_ ?_).mono ?_; (repeat (first | exact Grow.refl _ | refine Grow.drew ?_ | refine Grow.drewN ?_ _ | refine Grow.alloc ?_ _)); (first | exact Nat.le_refl _ | simp); ((repeat (refine Sl.drew ?_)); exact Sl.at8 _ _ _ rfl); rintro e w6 ⟨rfl, h6, t6⟩)
  all_goals
    have H6 := Lib.hid h6
    have HT6 := Lib.hid t6
    clear h6 t6
    go_wp2_with fail
    go_end0
    exact ⟨rfl, H6.out, HT6.out⟩

theorem fits_small8 {k : Int} (h0 : 0 ≤ k) (h1 : k ≤ 2000000000) : fitsB k 8 = true := by have := h1; simp [fitsB]; omega
theorem put_end {w : World} (U m : Nat) (h : U + m ≤ 2000) : Calls Try.prog 40 #[.slice none 0 0, .int .i64 ((U : Int) + (m : Int)), .int .i64 8] w fun e w' => ∃ A' c', e = .returned (.slice A' 8 c') ∧ Own w' w.heap.size A' 8 c' (leB (U + m) 8) ∧ Grow w w' := by
  refine (put_s (n := 0) (bs := []) 8 Sl.nil (fits_small8 (by omega) (by omega)) (by omega) rfl (by omega)).mono ?_
  rintro e w' ⟨A', c', rfl, o, g⟩
  rw [List.nil_append, show ((U : Int) + (m : Int)).toNat = U + m by omega] at o
  exact ⟨A', c', rfl, o, g⟩

set_option maxHeartbeats 4000000 in
set_option maxRecDepth 8000 in
theorem pl_append {w : World} {l : Nat} {x : MB} {s : MS} (h : LG w l x s) {A : Option Addr} {n c : Nat} {L : List PT} (hr : RP w A n L) (hw : ∀ p ∈ L, p.wide) :
    Calls Try.prog 25 #[.pointer (some ⟨l, 0, none⟩), .slice A n c] w fun e w' => e = .returned (.int .i64 (apE s.S L)) ∧ LG w' l x (s.append L) ∧ Turn x.F w w' := by
  have H := Lib.hid h
  have HR := Lib.hid hr
  have HW := Lib.hid hw
  have HLT := Lib.hid h.1.lt
  clear h hr hw
  go_enter Try.func25, Try.ntmps25
  go_wp2_with fail
  refine (pl_encode HR.out HW.out).mono ?_
  rintro e w1 (⟨hm, A1, c1, rfl, o1, g1⟩ | ⟨hm, rfl, g1⟩)
  · obtain ⟨bs, hbs⟩ : ∃ bs, bs = encP L := ⟨_, rfl⟩
    obtain ⟨m, hmm⟩ : ∃ m, m = bs.length := ⟨_, rfl⟩
    have hm8 := encP_mod L
    have hml := encP_le hm
    rw [← hbs, ← hmm] at o1 hm8 hml
    have m1 := hm8.2
    obtain ⟨U, hU⟩ : ∃ U, U = lgU s.S := ⟨_, rfl⟩
    have hU5 : U ≤ 504 := by rw [hU]; exact lgU_le
    have HM := Lib.hid hm
    have HO := Lib.hid o1
    have HG := Lib.hid g1
    have HBS := Lib.hid hbs
    have HMM := Lib.hid hmm
    have HUU := Lib.hid hU
    have H1 := Lib.hid (H.out.keep g1)
    rw [← hbs, ← hmm]
    clear hm o1 g1 hm8 hmm hbs hU
    go_wp2_with fail
    refine (pl_each H1.out 52 #[] (enters Try.func52 (by kernel_rfl) rfl) (fun _ _ u => Grow w1 u) (fun u g => g) (fun _ _ _ _ h g => h.trans g) ?_).mono ?_
    · intro B i u0 u v Lr hJ g _ _ _ _
      have HJ := Lib.hid (hJ.trans g)
      clear hJ g
      go_enter Try.func52, Try.ntmps52
      go_wp2_with fail
      go_end0
      exact ⟨rfl, HJ.out, Turn.refl _ _⟩
    rintro e w2 ⟨rfl, B, -, -, g2⟩
    rw [← HUU.out]
    have H2 := Lib.hid (H1.out.keep g2)
    have HG2 := Lib.hid (HG.out.trans g2)
    have HO2 := Lib.hid (show Own w2 w.heap.size A1 m c1 bs from ⟨HO.out.1, HO.out.2.1, World.ownsRow.kept HO.out.2.2 g2.grown (own_none _)⟩)
    have c1 := H2.out.2.1.c3.2.1
    have c2 := H2.out.2.1.c3.2.2
    clear g2
    by_cases hf : 504 < U + m
    · have z1 : decide ((504 : Int) < (U : Int) + (m : Int)) = true := decide_eq_true (by omega)
      have z2 : decide (504 < U + m) = true := decide_eq_true hf
      have HE := Lib.hid (show apE s.S L = 5 by rw [apE, if_pos HM.out, ← HUU.out, ← HBS.out, ← HMM.out, if_pos hf])
      clear hf
      go_wp2_with fail
      go_ret
      exact ⟨ret_int (by rw [HE.out]), by rw [MS.append, if_neg (by rw [HE.out]; simp)]; exact H2.out, Turn.grow HG2.out _⟩
    · have z1 : decide ((504 : Int) < (U : Int) + (m : Int)) = false := decide_eq_false (by omega)
      have z2 : decide (504 < U + m) = false := decide_eq_false hf
      have hUm : U + m ≤ 504 := by omega
      have HE := Lib.hid (show apE s.S L = 0 by rw [apE, if_pos HM.out, ← HUU.out, ← HBS.out, ← HMM.out, if_neg hf])
      clear hf
      go_wp2_with fail
      refine (pl_keep H2.out HO2.out.sl (HO2.out.out HLT.out) _).mono ?_
      rintro e w3 ⟨rfl, h3, t3⟩
      have H3 := Lib.hid h3
      have HT3 := Lib.hid ((Turn.grow HG2.out x.F).and t3)
      have d1 := h3.2.1.c3.2.1
      have d2 := h3.2.1.c3.2.2
      clear h3 t3 c1 c2
      go_wp2_with fail
      have HA : ∀ w4 A4 c4, Own w4 w3.heap.size A4 8 c4 (leB (U + m) 8) → Grow w3 w4 → ∀ w5, Grow w4 w5 → Calls Try.prog 53 #[.pointer (some ⟨l, 0, none⟩), .int .i64 512, .slice A4 8 c4] w5 fun e w' => e = .returned (.tuple #[]) ∧ LG w' l x (s.append L) ∧ Turn x.F w w' := by
        intro w4 A4 c4 o4 g4 w5 g5
        have hx : ∀ k, x.F k → k < w3.heap.size := H3.out.1.lt
        refine (pl_keep (H3.out.keep (g4.trans g5)) (o4.sl.keep g5) (o4.out hx) 512).mono ?_
        rintro e w' ⟨rfl, h5, t5⟩
        refine ⟨rfl, ?_, (HT3.out.and (Turn.grow (g4.trans g5) _)).and t5⟩
        rw [MS.append, if_pos HE.out, ← HUU.out, ← HBS.out, ← HMM.out]
        exact h5
      have HAA := Lib.hid HA
      have y1 : IntKind.i64.wrap ((U : Int) + (m : Int)) = (U : Int) + (m : Int) := IntWalk.i64_in _ (by omega)
      clear HA
      go_region_held3 (fun w' => w'.cell? ⟨l, 1, none⟩ = some (.int .i64 512)) (first | exact d1 | exact f1 | exact g1) ((first
        | (go_at_call 40; go_loud (refine (put_end U m (by omega)).mono ?_; rintro e w4 ⟨A4, c4, rfl, o4, g4⟩; have G4 : Grow w3 w4 := Grow.trans (by (repeat (first | exact Grow.refl _ | refine Grow.drew ?_ | refine Grow.drewN ?_ _))) g4; have o4' := o4.low (B := w3.heap.size) (Nat.le_refl _); have f1 := G4.cell d1))
        | (go_at_call 53; refine (HAA.out w4 A4 c4 o4' G4 _ ?_).mono ?_; (repeat (first | exact Grow.refl _ | refine Grow.drew ?_ | refine Grow.drewN ?_ _)); rintro e w6 ⟨rfl, h6, t6⟩; have g1 := h6.2.1.c3.2.1)))
      all_goals
        clear g1
        have H6 := Lib.hid h6
        have HT6 := Lib.hid t6
        clear h6 t6
        go_wp2_with fail
        go_ret
        exact ⟨ret_int (by rw [HE.out]), H6.out, HT6.out⟩
  · have HE := Lib.hid (show apE s.S L = 1 by rw [apE, hm]; rfl)
    have HG := Lib.hid g1
    clear hm g1
    go_wp2_with fail
    go_ret
    exact ⟨ret_int (by rw [HE.out]), by rw [MS.append, if_neg (by rw [HE.out]; simp)]; exact H.out.keep HG.out, Turn.grow HG.out _⟩
end Go.Proofs.Ytncjfljmnkfghaa
